/- The proof of RepoStoresCardSaid, part 3: what it rests on (conditions: those that each theorem names). -/
import Derived.Test.YtpmhjnhgpplmnaaGreatDoorU2
import Derived.Test.YtpmhjnhgpplmnaaGreatDoorRows
import Derived.Lib.ConvBytes
import Derived.Laws.Cover3
import Derived.Lib.AppendZerosOnto
import Derived.Shelf.Strconv.Itoa3
import Derived.Ground.NamesProg
import Derived.Test.YtpmhjnhgpplmnaaGreatDoorProg
section
namespace Go.Proofs.YtpmhjnhgpplmnaaGreatDoor
open Go Go.Proofs.YtpmhjnhgpplmnaaGreatDoor.Sx
set_option maxRecDepth 100000
variable (w:World) (R:Ending→World→Prop)
theorem wY (a:Option Addr) (b c:Nat) (h:∃c:World→Prop,c w.drew∧∃d e,a=some ⟨d,e,none⟩∧0≤(0:Int)∧0<(b:Int)∧∃f g,a=some ⟨f,g,none⟩∧0≤(1:Int)∧1<(b:Int)∧∃h i,a=some ⟨h,i,none⟩∧0≤(2:Int)∧2<(b:Int)∧∃j k,a=some ⟨j,k,none⟩∧0≤(3:Int)∧3<(b:Int)∧∃a,(∀b,c b→LdQ 5 d (e+Int.toNat (0:Int)*1) (.int .u8 a) b)∧∃b,(∀a,c a→LdQ 5 f (g+Int.toNat (1:Int)*1) (.int .u8 b) a)∧∃d,(∀a,c a→LdQ 5 h (i+Int.toNat (2:Int)*1) (.int .u8 d) a)∧∃e,(∀a,c a→LdQ 5 j (k+Int.toNat (3:Int)*1) (.int .u8 e) a)∧R (.returned (.int .u32 (bor .u32 (bor .u32 (bor .u32 (IntKind.wrap .u32 a) (gY .u32 (IntKind.wrap .u32 b) (8:Int))) (gY .u32 (IntKind.wrap .u32 d) (16:Int))) (gY .u32 (IntKind.wrap .u32 e) (24:Int))))) w.drew):Calls Tryz.prog 382 #[.slice a b c] w R:=af 0x2e2d2c2b4212a31f1e1d3211c319187321630311235291028151b101a1551041511001521d Tryz.func382 (by kernel_rfl) h
theorem tj (a b c d:Int) (h:Calls Tryz.prog 383 #[.int .u32 (aU .u32 d (IntKind.wrap .u32 (a+b))),.int .i64 16] w fun d e=>∃f,d=.returned (.int .u32 f)∧Calls Tryz.prog 383 #[.int .u32 (aU .u32 b (IntKind.wrap .u32 (c+f))),.int .i64 12] e fun d e=>∃g,d=.returned (.int .u32 g)∧Calls Tryz.prog 383 #[.int .u32 (aU .u32 f (IntKind.wrap .u32 (IntKind.wrap .u32 (a+b)+g))),.int .i64 8] e fun d e=>∃h,d=.returned (.int .u32 h)∧Calls Tryz.prog 383 #[.int .u32 (aU .u32 g (IntKind.wrap .u32 (IntKind.wrap .u32 (c+f)+h))),.int .i64 7] e fun d e=>∃i,d=.returned (.int .u32 i)∧R (.returned (.tuple #[.int .u32 (IntKind.wrap .u32 (IntKind.wrap .u32 (a+b)+g)),.int .u32 i,.int .u32 (IntKind.wrap .u32 (IntKind.wrap .u32 (c+f)+h)),.int .u32 h])) e):Calls Tryz.prog 378 #[.int .u32 a,.int .u32 b,.int .u32 c,.int .u32 d] w R:=af 0x18d01214ec4d01214ec4d01214ec4d01214ec4d4d Tryz.func378 (by kernel_rfl) h
theorem p6 (a b:Nat) (c:Int) (d:Option Addr) (e f:Nat) (h:Alz 368 w fun f g=>∃(h:Int→Int→World→Prop) (i:Int→Int→World→Nat),h (-1) 0 g∧∀g j k,h g j k→Ifz (decide (j<(e:Int))) (∃l:Int→World→Prop,Ifz (IntKind.wrap .i64 (Int.tdiv (IntKind.wrap .i64 (c+j)) (64:Int)) != g) (∃d:World→Prop,d k.drew∧∃e,(∀c,d c→LdQ 39 a b (.agg e) c)∧∃g,(∀c,d c→LdQ 287 a (b+32) (.agg g) c)∧Caz 364 #[.agg e,.int .u32 (IntKind.wrap .u32 (IntKind.wrap .i64 (Int.tdiv (IntKind.wrap .i64 (c+j)) (64:Int)))),.agg g] k.drew fun a b=>∃e:World→Prop,(∀a,e a→d a)∧e b∧Stz 368 f 0 (.agg a) b fun a=>l (IntKind.wrap .i64 (Int.tdiv (IntKind.wrap .i64 (c+j)) (64:Int))) a) (l g k)∧∀a b,l a b→∃l:World→Prop,l b.drew∧∃m n,d=some ⟨m,n,none⟩∧0≤j∧j<(e:Int)∧0≤Int.tmod (IntKind.wrap .i64 (c+j)) (64:Int)∧Int.tmod (IntKind.wrap .i64 (c+j)) (64:Int)<(64:Int)∧∃o,(∀a,l a→LdQ 5 m (n+Int.toNat j*1) (.int .u8 o) a)∧∃m,(∀a,l a→LdQ 5 f (0+Int.toNat (Int.tmod (IntKind.wrap .i64 (c+j)) (64:Int))*1) (.int .u8 m) a)∧∃c f,d=some ⟨c,f,none⟩∧0≤j∧j<(e:Int)∧Stz 5 c (f+Int.toNat j*1) (.int .u8 (aU .u8 o m)) b.drew fun b=>h a (IntKind.wrap .i64 (j+1)) b∧i a (IntKind.wrap .i64 (j+1)) b<i g j k) (R (.returned (.tuple #[])) k)):Calls Tryz.prog 328 #[.pointer (some ⟨a,b,none⟩),.int .i64 c,.slice d e f] w R:=af 0x2b11c1041c451b101a11193133518176544252110225031b54303001d141c48181a481938331b18765421019253011711c2e172a3d5d22d8200321d00211c1724b1c372983d1d07c Tryz.func328 (by kernel_rfl) h
theorem xd (a b:Int) (h:R (.returned (.bool (decide (a≥(0:Int))&&decide (a≤(274877906944:Int))&&decide (b≤IntKind.wrap .i64 ((274877906944:Int)-a))))) w):Calls Tryz.prog 327 #[.int .i64 a,.int .i64 b] w R:=af 0x14b12bec1d Tryz.func327 (by kernel_rfl) h
theorem zi (a b:Array Value) (c:Int) (d:Option Addr) (e f:Nat) (h:Bxz 39 (.agg a) w fun a g=>Bxz 287 (.agg b) g fun b g=>Cbz 327 #[.int .i64 c,.int .i64 (e:Int)] g fun g h=>Ifz (!g) (R (.returned (.tuple #[.slice none 0 0,.iface 65 (.int .i64 8)])) h) (Mkz 26 (.int .i64 0) (.int .i64 (e:Int)) h (fun g h i j=>Apz 26 (.slice g h i) (.slice d e f) j fun d e f g=>Laz 39 a 0 g fun a=>Laz 287 b 0 g fun b=>Buz 428 #[(0,.agg a),(1,.agg b)] g fun a=>Bxz 428 (.agg a) g fun a b=>Calls Tryz.prog 328 #[.pointer (some ⟨a,0,none⟩),.int .i64 c,.slice d e f] b fun a b=>a=.returned (.tuple #[])∧R (.returned (.tuple #[.slice d e f,.nilIface])) b))):Calls Tryz.prog 272 #[.agg a,.agg b,.int .i64 c,.slice d e f] w R:=af 0x3d004d7838383c0175175dc003d301414ec20d77c Tryz.func272 (by kernel_rfl) h
theorem wj (a:Array Value) (b:Int) (c:Array Value) (h:Bxz 39 (.agg a) w fun a d=>Bxz 287 (.agg c) d fun c d=>Alz 430 d fun d e=>Buz 430 #[(0,.int .u32 1634760805),(1,.int .u32 857760878),(2,.int .u32 2036477234),(3,.int .u32 1797285236)] e fun f=>Alz 430 e fun e g=>Stz 430 e 0 (.agg f) g fun f=>∃(g:Int→World→Prop) (h:Int→World→Nat),g 0 f∧∀f i,g f i→Ifz (decide (f<(8:Int))) (0≤IntKind.wrap .i64 ((4:Int)*f)∧IntKind.wrap .i64 ((4:Int)*f)≤(32:Int)∧(32:Int)≤32∧∀b,lT 1 (some ⟨a,0,none⟩) (Int.toNat (IntKind.wrap .i64 ((4:Int)*f))) 32 b→Calls Tryz.prog 382 #[.slice b (32-Int.toNat (IntKind.wrap .i64 ((4:Int)*f))) (32-Int.toNat (IntKind.wrap .i64 ((4:Int)*f)))] i fun a b=>∃c,a=.returned (.int .u32 c)∧0≤IntKind.wrap .i64 ((4:Int)+f)∧IntKind.wrap .i64 ((4:Int)+f)<(16:Int)∧Stz 370 e (0+Int.toNat (IntKind.wrap .i64 ((4:Int)+f))*1) (.int .u32 c) b fun a=>g (IntKind.wrap .i64 (f+1)) a∧h (IntKind.wrap .i64 (f+1)) a<h f i) (Stz 370 e 12 (.int .u32 b) i (fun a=>∃(b:Int→World→Prop) (f:Int→World→Nat),b 0 a∧∀a g,b a g→Ifz (decide (a<(3:Int))) (0≤IntKind.wrap .i64 ((4:Int)*a)∧IntKind.wrap .i64 ((4:Int)*a)≤(12:Int)∧(12:Int)≤12∧∀d,lT 1 (some ⟨c,0,none⟩) (Int.toNat (IntKind.wrap .i64 ((4:Int)*a))) 12 d→Calls Tryz.prog 382 #[.slice d (12-Int.toNat (IntKind.wrap .i64 ((4:Int)*a))) (12-Int.toNat (IntKind.wrap .i64 ((4:Int)*a)))] g fun c d=>∃h,c=.returned (.int .u32 h)∧0≤IntKind.wrap .i64 ((13:Int)+a)∧IntKind.wrap .i64 ((13:Int)+a)<(16:Int)∧Stz 370 e (0+Int.toNat (IntKind.wrap .i64 ((13:Int)+a))*1) (.int .u32 h) d fun c=>b (IntKind.wrap .i64 (a+1)) c∧f (IntKind.wrap .i64 (a+1)) c<f a g) (Laz 430 e 0 g (fun a=>Stz 430 d 0 (.agg a) g fun a=>∃b,(loadVar 430 ⟨d,0,none⟩).run Tryz.prog a=.ok b a∧R (.returned b) a))))):Calls Tryz.prog 377 #[.agg a,.int .u32 b,.agg c] w R:=af 0x683c2b06821494212d8200321d0113811b381192981d206dc2b06821494212d8200321d0111b11b1b1182981d206783c0777c Tryz.func377 (by kernel_rfl) h
theorem wv (a:Array Value) (b:Int) (c:Array Value) (h:Bxz 39 (.agg a) w fun a d=>Bxz 287 (.agg c) d fun c d=>Alz 368 d fun d e=>Laz 39 a 0 e fun a=>Laz 287 c 0 e fun c=>Caz 377 #[.agg a,.int .u32 b,.agg c] e fun a b=>Alz 430 b fun b c=>Stz 430 b 0 (.agg a) c fun a=>Laz 430 b 0 a fun c=>Alz 430 a fun a e=>Stz 430 a 0 (.agg c) e fun c=>∃(e:Int→World→Prop) (f:Int→World→Nat),e 0 c∧∀c g,e c g→Ifz (decide (c<(10:Int))) (∃(b:Int→World→Prop) (d:Int→World→Nat),b 0 g∧∀h i,b h i→Ifz (decide (h<(4:Int))) (∃c:World→Prop,c i.drew∧0≤h∧h<(16:Int)∧0≤IntKind.wrap .i64 ((4:Int)+h)∧IntKind.wrap .i64 ((4:Int)+h)<(16:Int)∧0≤IntKind.wrap .i64 ((8:Int)+h)∧IntKind.wrap .i64 ((8:Int)+h)<(16:Int)∧0≤IntKind.wrap .i64 ((12:Int)+h)∧IntKind.wrap .i64 ((12:Int)+h)<(16:Int)∧∃e,(∀b,c b→LdQ 370 a (0+Int.toNat h*1) (.int .u32 e) b)∧∃f,(∀b,c b→LdQ 370 a (0+Int.toNat (IntKind.wrap .i64 ((4:Int)+h))*1) (.int .u32 f) b)∧∃g,(∀b,c b→LdQ 370 a (0+Int.toNat (IntKind.wrap .i64 ((8:Int)+h))*1) (.int .u32 g) b)∧∃j,(∀b,c b→LdQ 370 a (0+Int.toNat (IntKind.wrap .i64 ((12:Int)+h))*1) (.int .u32 j) b)∧Calls Tryz.prog 378 #[.int .u32 e,.int .u32 f,.int .u32 g,.int .u32 j] i.drew fun e f=>∃g j k l,e=.returned (.tuple #[.int .u32 g,.int .u32 j,.int .u32 k,.int .u32 l])∧∃e:World→Prop,(∀a,e a→c a)∧e f∧0≤h∧h<(16:Int)∧Stz 370 a (0+Int.toNat h*1) (.int .u32 g) f fun c=>0≤IntKind.wrap .i64 ((4:Int)+h)∧IntKind.wrap .i64 ((4:Int)+h)<(16:Int)∧Stz 370 a (0+Int.toNat (IntKind.wrap .i64 ((4:Int)+h))*1) (.int .u32 j) c fun c=>0≤IntKind.wrap .i64 ((8:Int)+h)∧IntKind.wrap .i64 ((8:Int)+h)<(16:Int)∧Stz 370 a (0+Int.toNat (IntKind.wrap .i64 ((8:Int)+h))*1) (.int .u32 k) c fun c=>0≤IntKind.wrap .i64 ((12:Int)+h)∧IntKind.wrap .i64 ((12:Int)+h)<(16:Int)∧Stz 370 a (0+Int.toNat (IntKind.wrap .i64 ((12:Int)+h))*1) (.int .u32 l) c fun a=>b (IntKind.wrap .i64 (h+1)) a∧d (IntKind.wrap .i64 (h+1)) a<d h i) (∃(b:Int→World→Prop) (d:Int→World→Nat),b 0 i∧∀h i,b h i→Ifz (decide (h<(4:Int))) (∃c:World→Prop,c i.drew∧0≤h∧h<(16:Int)∧0≤IntKind.wrap .i64 ((4:Int)+Int.tmod (IntKind.wrap .i64 (h+1)) (4:Int))∧IntKind.wrap .i64 ((4:Int)+Int.tmod (IntKind.wrap .i64 (h+1)) (4:Int))<(16:Int)∧0≤IntKind.wrap .i64 ((8:Int)+Int.tmod (IntKind.wrap .i64 (h+(2:Int))) (4:Int))∧IntKind.wrap .i64 ((8:Int)+Int.tmod (IntKind.wrap .i64 (h+(2:Int))) (4:Int))<(16:Int)∧0≤IntKind.wrap .i64 ((12:Int)+Int.tmod (IntKind.wrap .i64 (h+(3:Int))) (4:Int))∧IntKind.wrap .i64 ((12:Int)+Int.tmod (IntKind.wrap .i64 (h+(3:Int))) (4:Int))<(16:Int)∧∃e,(∀b,c b→LdQ 370 a (0+Int.toNat h*1) (.int .u32 e) b)∧∃f,(∀b,c b→LdQ 370 a (0+Int.toNat (IntKind.wrap .i64 ((4:Int)+Int.tmod (IntKind.wrap .i64 (h+1)) (4:Int)))*1) (.int .u32 f) b)∧∃g,(∀b,c b→LdQ 370 a (0+Int.toNat (IntKind.wrap .i64 ((8:Int)+Int.tmod (IntKind.wrap .i64 (h+(2:Int))) (4:Int)))*1) (.int .u32 g) b)∧∃j,(∀b,c b→LdQ 370 a (0+Int.toNat (IntKind.wrap .i64 ((12:Int)+Int.tmod (IntKind.wrap .i64 (h+(3:Int))) (4:Int)))*1) (.int .u32 j) b)∧Calls Tryz.prog 378 #[.int .u32 e,.int .u32 f,.int .u32 g,.int .u32 j] i.drew fun e f=>∃g j k l,e=.returned (.tuple #[.int .u32 g,.int .u32 j,.int .u32 k,.int .u32 l])∧∃e:World→Prop,(∀a,e a→c a)∧e f∧0≤h∧h<(16:Int)∧Stz 370 a (0+Int.toNat h*1) (.int .u32 g) f fun c=>0≤IntKind.wrap .i64 ((4:Int)+Int.tmod (IntKind.wrap .i64 (h+1)) (4:Int))∧IntKind.wrap .i64 ((4:Int)+Int.tmod (IntKind.wrap .i64 (h+1)) (4:Int))<(16:Int)∧Stz 370 a (0+Int.toNat (IntKind.wrap .i64 ((4:Int)+Int.tmod (IntKind.wrap .i64 (h+1)) (4:Int)))*1) (.int .u32 j) c fun c=>0≤IntKind.wrap .i64 ((8:Int)+Int.tmod (IntKind.wrap .i64 (h+(2:Int))) (4:Int))∧IntKind.wrap .i64 ((8:Int)+Int.tmod (IntKind.wrap .i64 (h+(2:Int))) (4:Int))<(16:Int)∧Stz 370 a (0+Int.toNat (IntKind.wrap .i64 ((8:Int)+Int.tmod (IntKind.wrap .i64 (h+(2:Int))) (4:Int)))*1) (.int .u32 k) c fun c=>0≤IntKind.wrap .i64 ((12:Int)+Int.tmod (IntKind.wrap .i64 (h+(3:Int))) (4:Int))∧IntKind.wrap .i64 ((12:Int)+Int.tmod (IntKind.wrap .i64 (h+(3:Int))) (4:Int))<(16:Int)∧Stz 370 a (0+Int.toNat (IntKind.wrap .i64 ((12:Int)+Int.tmod (IntKind.wrap .i64 (h+(3:Int))) (4:Int)))*1) (.int .u32 l) c fun a=>b (IntKind.wrap .i64 (h+1)) a∧d (IntKind.wrap .i64 (h+1)) a<d h i) (e (IntKind.wrap .i64 (c+1)) i∧f (IntKind.wrap .i64 (c+1)) i<f c g))) (Alz 368 g (fun c e=>∃(f:Int→World→Prop) (g:Int→World→Nat),f 0 e∧∀e h,f e h→Ifz (decide (e<(16:Int))) (∃d:World→Prop,d h.drew∧0≤e∧e<(16:Int)∧0≤e∧e<(16:Int)∧∃i,(∀b,d b→LdQ 370 a (0+Int.toNat e*1) (.int .u32 i) b)∧∃a,(∀c,d c→LdQ 370 b (0+Int.toNat e*1) (.int .u32 a) c)∧0≤IntKind.wrap .i64 ((4:Int)*e)∧IntKind.wrap .i64 ((4:Int)*e)<(64:Int)∧Stz 5 c (0+Int.toNat (IntKind.wrap .i64 ((4:Int)*e))*1) (.int .u8 (IntKind.wrap .u8 (IntKind.wrap .u32 (i+a)))) h.drew fun b=>0≤IntKind.wrap .i64 (IntKind.wrap .i64 ((4:Int)*e)+(1:Int))∧IntKind.wrap .i64 (IntKind.wrap .i64 ((4:Int)*e)+(1:Int))<(64:Int)∧∃d,(Instr.storeAt 5 (.pointer (some ⟨c,0+Int.toNat (IntKind.wrap .i64 (IntKind.wrap .i64 ((4:Int)*e)+(1:Int)))*1,none⟩)) (.int .u8 (IntKind.wrap .u8 (dh .u32 (IntKind.wrap .u32 (i+a)) (8:Int))))).run Tryz.prog b=.ok () d∧0≤IntKind.wrap .i64 (IntKind.wrap .i64 ((4:Int)*e)+(2:Int))∧IntKind.wrap .i64 (IntKind.wrap .i64 ((4:Int)*e)+(2:Int))<(64:Int)∧∃b,(Instr.storeAt 5 (.pointer (some ⟨c,0+Int.toNat (IntKind.wrap .i64 (IntKind.wrap .i64 ((4:Int)*e)+(2:Int)))*1,none⟩)) (.int .u8 (IntKind.wrap .u8 (dh .u32 (IntKind.wrap .u32 (i+a)) (16:Int))))).run Tryz.prog d=.ok () b∧0≤IntKind.wrap .i64 (IntKind.wrap .i64 ((4:Int)*e)+(3:Int))∧IntKind.wrap .i64 (IntKind.wrap .i64 ((4:Int)*e)+(3:Int))<(64:Int)∧∃d,(Instr.storeAt 5 (.pointer (some ⟨c,0+Int.toNat (IntKind.wrap .i64 (IntKind.wrap .i64 ((4:Int)*e)+(3:Int)))*1,none⟩)) (.int .u8 (IntKind.wrap .u8 (dh .u32 (IntKind.wrap .u32 (i+a)) (24:Int))))).run Tryz.prog b=.ok () d∧f (IntKind.wrap .i64 (e+1)) d∧g (IntKind.wrap .i64 (e+1)) d<g e h) (Laz 368 c 0 h (fun a=>Stz 368 d 0 (.agg a) h fun a=>∃b,(loadVar 368 ⟨d,0,none⟩).run Tryz.prog a=.ok b a∧R (.returned b) a))))):Calls Tryz.prog 364 #[.agg a,.int .u32 b,.agg c] w R:=af 0x683c2b0686868682e21007622253223541031511001522d8200321d0111cf14d1cf21f2981d207c2b2b1d2921d21a27605043d453c143b453a14394538142f452e12d2c2b2a295222224828421f321c3219326351e101d151b101a15181071551432105251fd2d8200321d0117c15a7c41a2981d2b1d2f32a31e31a1905044b454a14494548143f453e143d453c13b3a39382f522222482e422d3229321d3219352c12b2a2252811f1e2251c11b1a2251817654321018252d8200321d0113814c381192981d28200321d0112e11a92e5192981d206783c06781483183c0777c Tryz.func364 (by kernel_rfl) h
end Go.Proofs.YtpmhjnhgpplmnaaGreatDoor
end

section
namespace Go.Proofs.YtpmhjnhgpplmnaaGreatDoor
open Go Sx
set_option maxRecDepth 8000

theorem s8 (x n:Nat) (w:World) (hx:x<4294967296) (hn:n<32) (h0:0<n):Calls Tryz.prog 383 #[.int .u32 (x:Int),.int .i64 (n:Int)] w fun e w'=>e=.returned (.int .u32 ((rotl x n:Nat):Int))∧w'=w:=by
 apply jf
 have h1:eo .u64 (IntKind.wrap .u64 (n:Int)) 31=(n:Int):=by
   rw [oL rfl (by simp [eM,IntKind.bits];omega),show (31:Int)=((31:Nat):Int) from rfl,sF rfl (by simp [eM,IntKind.bits];omega) (by simp [eM,IntKind.bits]),show n&&& 31=n%32 from Nat.and_two_pow_sub_one_eq_mod n 5,Nat.mod_eq_of_lt hn]
 have h2:IntKind.wrap .u64 ((32:Int)- (n:Int))=((32-n:Nat):Int):=by rw [wrap_u64];omega
 rw [h1,h2]
 refine ⟨by omega,by omega,?_,rfl⟩
 rw [JG x n hx hn h0]

theorem BU (a b c d:Nat) (w:World) (hb:b<4294967296) (hd:d<4294967296):
   Calls Tryz.prog 378 #[.int .u32 (a:Int),.int .u32 (b:Int),.int .u32 (c:Int),.int .u32 (d:Int)] w fun e w'=>e=.returned (.tuple #[.int .u32 ((qA a b c d:Nat):Int),.int .u32 ((qB a b c d:Nat):Int),.int .u32 ((qC a b c d:Nat):Int),.int .u32 ((qD a b c d:Nat):Int)])∧w'=w:=by
 have l1:hD a b d 16<4294967296:=A1 _ (fW hd (dz _ _))
 have l2:hB a b c d 16 12<4294967296:=A1 _ (fW hb (dz _ _))
 apply tj
 simp only [dO]
 rw [xor_val hd (dz _ _)]
 refine (s8 _ 16 w (fW hd (dz _ _)) (by decide) (by decide)).mono ?_
 rintro e w1 ⟨rfl,rfl⟩
 refine ⟨_,rfl,?_⟩
 simp only [dO]
 rw [show rotl (d^^^bp a b) 16=hD a b d 16 from rfl,xor_val hb (dz _ _)]
 refine (s8 _ 12 _ (fW hb (dz _ _)) (by decide) (by decide)).mono ?_
 rintro e w2 ⟨rfl,rfl⟩
 refine ⟨_,rfl,?_⟩
 simp only [dO]
 rw [show rotl (b^^^bp c (hD a b d 16)) 12=hB a b c d 16 12 from rfl,xor_val l1 (dz _ _)]
 refine (s8 _ 8 _ (fW l1 (dz _ _)) (by decide) (by decide)).mono ?_
 rintro e w3 ⟨rfl,rfl⟩
 refine ⟨_,rfl,?_⟩
 simp only [dO]
 rw [xor_val l2 (dz _ _)]
 refine (s8 _ 7 _ (fW l2 (dz _ _)) (by decide) (by decide)).mono ?_
 rintro e w4 ⟨rfl,rfl⟩
 exact ⟨_,rfl,rfl,rfl⟩

section
variable {w0 w:World} {X:List Nat} {M:List Res}

end

end Go.Proofs.YtpmhjnhgpplmnaaGreatDoor
end

section
namespace Go.Proofs.YtpmhjnhgpplmnaaGreatDoor
open Go Sx
set_option maxRecDepth 8000

theorem AA (a:Option Addr) (n c:Nat) (l:List UInt8) (w:World) (hr:RdB w a n c l) (hn:4≤n):Calls Tryz.prog 382 #[.slice a n c] w fun e w'=>e=.returned (.int .u32 ((le4 l 0:Nat):Int))∧Chg [] w w':=by
 have hl:=hr.bB
 apply wY
 have b0:=(l.getD 0 0).toNat_lt
 have b1:=(l.getD 1 0).toNat_lt
 have b2:=(l.getD 2 0).toNat_lt
 have b3:=(l.getD 3 0).toNat_lt
 have hc:Cells w.drew a (bv l):=hr.cells.au (Chg.drew _ _)
 refine ⟨fun w'=>Chg [] w w',Chg.drew _ _,?_⟩
 refine ix0 hr.cells hl 0 (by omega) fun g0 o0 e0 h0=>ix0 hr.cells hl 1 (by omega) fun g1 o1 e1 h1=>ix0 hr.cells hl 2 (by omega) fun g2 o2 e2 h2=>ix0 hr.cells hl 3 (by omega) fun g3 o3 e3 h3=>?_
 refine ⟨g0,o0,e0,by omega,by omega,g1,o1,e1,by omega,by omega,g2,o2,e2,by omega,by omega,g3,o3,e3,by omega,by omega,
   _,fun w' h=>h0 w' (hr.cells.au h),_,fun w' h=>h1 w' (hr.cells.au h),_,fun w' h=>h2 w' (hr.cells.au h),_,fun w' h=>h3 w' (hr.cells.au h),?_,Chg.drew _ _⟩
 rw [cF (show (l.getD 0 0).toNat<4294967296 by omega),cF (show (l.getD 1 0).toNat<4294967296 by omega),cF (show (l.getD 2 0).toNat<4294967296 by omega),cF (show (l.getD 3 0).toNat<4294967296 by omega),
   show (8:Int)=((8:Nat):Int) from rfl,show (16:Int)=((16:Nat):Int) from rfl,show (24:Int)=((24:Nat):Int) from rfl,jH (by decide),jH (by decide),jH (by decide)]
 have m:∀x:Nat,x%4294967296<4294967296:=fun x=>Nat.mod_lt _ (by decide)
 rw [or_val (by omega) (m _),or_val (Nat.or_lt_two_pow (n:=32) (by omega) (m _)) (m _),or_val (Nat.or_lt_two_pow (n:=32) (Nat.or_lt_two_pow (n:=32) (by omega) (m _)) (m _)) (m _)]
 rfl

theorem F7 (l:List UInt8) (o n:Nat) (h:4≤n):le4 ((l.drop o).take n) 0=le4 l o:=by
 have:∀j,j<4→((l.drop o).take n).getD (0+j) 0=l.getD (o+j) 0:=fun j hj=>by
   simp only [List.getD,List.getElem?_take,List.getElem?_drop,Nat.zero_add]
   rw [if_pos (by omega)]
 have h0:=this 0 (by omega)
 rw [Nat.add_zero,Nat.add_zero] at h0
 simp only [le4,h0,this 1 (by omega),this 2 (by omega),this 3 (by omega)]

theorem xV (w:World):(zeroValue 430).run Tryz.prog w=.ok (.agg (kv .u32 (List.replicate 16 0)).toArray) w:=Tryz.zeroValue430 w
theorem zero64 (w:World):(zeroValue 368).run Tryz.prog w=.ok (.agg (bv (List.replicate 64 0)).toArray) w:=Tryz.zeroValue368 w

theorem EI (key nonce:List UInt8) (ctr:Nat) (w:World) (hk:key.length=32) (hn:nonce.length=12) (hc:ctr<4294967296):
   Calls Tryz.prog 377 #[.agg (bv key).toArray,.int .u32 (ctr:Int),.agg (bv nonce).toArray] w fun e w'=>e=.returned (.agg (kv .u32 (lK key ctr nonce)).toArray)∧Chg [] w w':=by
 apply wj
 obtain ⟨g1,w1,r1,h1⟩:=(St.start w).cz (P:=Tryz.prog) 39 (bv key)
 obtain ⟨g2,w2,r2,h2⟩:=h1.cz (P:=Tryz.prog) 287 (bv nonce)
 obtain ⟨g3,w3,r3,h3⟩:=h2.aD xV
 have hb:=fP (P:=Tryz.prog) (w:=w3) (xV w3) Tryz.underlying430 (Tryz.sizeOf370 _) (kv .u32 [1634760805,857760878,2036477234,1797285236]) (fK _ _) (by simp)
 obtain ⟨g4,w4,r4,h4⟩:=h3.aD xV
 obtain ⟨w5,r5,h5⟩:=h4.stA (i:=3) (v:=kv .u32 ([1634760805,857760878,2036477234,1797285236]++List.replicate 12 0)) rfl (Tryz.sizeOf430 _) (by simp) (by simp) (fK _ _)
 refine ⟨_,_,r1,_,_,r2,_,_,r3,_,hb,_,_,r4,_,r5,?_⟩
 refine ⟨fun i w'=>∃k:Nat,i=(k:Int)∧k≤8∧St w [] w' [.arr g1 39 (bv key),.arr g2 287 (bv nonce),.arr g3 430 (kv .u32 (List.replicate 16 0)),.arr g4 430 (kv .u32 (uh 4 key k ([1634760805,857760878,2036477234,1797285236]++List.replicate 12 0)))],fun i _=>8-i.toNat,
   ⟨0,rfl,by omega,h5⟩,?_⟩
 rintro i w6 ⟨k,rfl,hk8,hS⟩
 refine ⟨fun h=>?_,fun h=>?_⟩
 · have hk':k<8:=by simp at h;omega
   have e1:IntKind.wrap .i64 ((4:Int)*(k:Int))=((4*k:Nat):Int):=by rw [wrap_i64 (by omega) (by omega)];omega
   have e2:IntKind.wrap .i64 ((4:Int)+(k:Int))=((4+k:Nat):Int):=by rw [wrap_i64 (by omega) (by omega)];omega
   have e3:IntKind.wrap .i64 ((k:Int)+1)=((k+1:Nat):Int):=by rw [wrap_i64 (by omega) (by omega)];rfl
   rw [e1,e2,e3]
   refine ⟨by omega,by omega,by omega,fun a' hs=>?_⟩
   have hrd:=(hS.rdA (i:=0) (n:=32) rfl (by simp [hk])).sub (l:=4*k) (hh:=32) (m:=32) hs (by omega) (by omega) (by omega) (by omega)
   rw [Nat.mul_one,Nat.mul_one,←fB,←jI] at hrd
   refine (AA _ _ _ _ _ hrd (by omega)).mono ?_
   rintro e w7 ⟨rfl,hc7⟩
   rw [F7 _ _ _ (by omega)]
   refine ⟨_,rfl,by omega,by omega,?_⟩
   obtain ⟨w8,r8,h8⟩:=(hS.same hc7).stK (i:=3) (off:=0+Int.toNat ((4+k:Nat):Int)*1) (o:=4+k) (n:=le4 key (4*k)) rfl (Tryz.sizeOf370 _) (by omega) (by simp;omega)
   exact ⟨w8,r8,⟨k+1,rfl,by omega,h8⟩,by simp;omega⟩
 · have hk':k=8:=by simp at h;omega
   subst hk'
   obtain ⟨w7,r7,h7⟩:=hS.stK (i:=3) (off:=12) (o:=12) (n:=ctr) rfl (Tryz.sizeOf370 _) rfl (by simp)
   refine ⟨w7,r7,?_⟩
   refine ⟨fun i w'=>∃k:Nat,i=(k:Int)∧k≤3∧St w [] w' [.arr g1 39 (bv key),.arr g2 287 (bv nonce),.arr g3 430 (kv .u32 (List.replicate 16 0)),.arr g4 430 (kv .u32 (uh 13 nonce k ((uh 4 key 8 ([1634760805,857760878,2036477234,1797285236]++List.replicate 12 0)).set 12 ctr)))],fun i _=>3-i.toNat,
     ⟨0,rfl,by omega,h7⟩,?_⟩
   rintro i w8 ⟨k,rfl,hk8,hS⟩
   refine ⟨fun h=>?_,fun h=>?_⟩
   · have hk':k<3:=by simp at h;omega
     have e1:IntKind.wrap .i64 ((4:Int)*(k:Int))=((4*k:Nat):Int):=by rw [wrap_i64 (by omega) (by omega)];omega
     have e2:IntKind.wrap .i64 ((13:Int)+(k:Int))=((13+k:Nat):Int):=by rw [wrap_i64 (by omega) (by omega)];omega
     have e3:IntKind.wrap .i64 ((k:Int)+1)=((k+1:Nat):Int):=by rw [wrap_i64 (by omega) (by omega)];rfl
     rw [e1,e2,e3]
     refine ⟨by omega,by omega,by omega,fun a' hs=>?_⟩
     have hrd:=(hS.rdA (i:=1) (n:=12) rfl (by simp [hn])).sub (l:=4*k) (hh:=12) (m:=12) hs (by omega) (by omega) (by omega) (by omega)
     rw [Nat.mul_one,Nat.mul_one,←fB,←jI] at hrd
     refine (AA _ _ _ _ _ hrd (by omega)).mono ?_
     rintro e w9 ⟨rfl,hc9⟩
     rw [F7 _ _ _ (by omega)]
     refine ⟨_,rfl,by omega,by omega,?_⟩
     obtain ⟨w10,r10,h10⟩:=(hS.same hc9).stK (i:=3) (off:=0+Int.toNat ((13+k:Nat):Int)*1) (o:=13+k) (n:=le4 nonce (4*k)) rfl (Tryz.sizeOf370 _) (by omega) (by simp;omega)
     exact ⟨w10,r10,⟨k+1,rfl,by omega,h10⟩,by simp;omega⟩
   · have hk':k=3:=by simp at h;omega
     subst hk'
     have hA:∀w,(isAgg 430).run Tryz.prog w=.ok true w:=fun w=>Tryz.isAgg430 w
     refine ⟨_,hS.ldA (i:=3) rfl (hA _) (Tryz.sizeOf430 _) (by simp),?_⟩
     obtain ⟨w9,r9,h9⟩:=hS.stA (i:=2) (v:=kv .u32 (lK key ctr nonce)) rfl (Tryz.sizeOf430 _) (by simp) (by simp [lK]) (fK _ _)
     exact ⟨w9,r9,_,h9.bQ (i:=2) rfl (hA _) (Tryz.sizeOf430 _) (by simp [lK]),rfl,h9.chg⟩

end Go.Proofs.YtpmhjnhgpplmnaaGreatDoor
end

section
namespace Go.Proofs.YtpmhjnhgpplmnaaGreatDoor
open Go Sx
set_option maxRecDepth 8000

theorem e16:∀w,(isAgg 430).run Tryz.prog w=.ok true w:=fun w=>Tryz.isAgg430 w
theorem e64:∀w,(isAgg 368).run Tryz.prog w=.ok true w:=fun w=>Tryz.isAgg368 w
theorem e32:∀w,(isAgg 39).run Tryz.prog w=.ok true w:=fun w=>Tryz.isAgg39 w
theorem e12:∀w,(isAgg 287).run Tryz.prog w=.ok true w:=fun w=>Tryz.isAgg287 w
theorem eU:∀w,(isAgg 370).run Tryz.prog w=.ok false w:=fun w=>Tryz.isAgg370 w

theorem DX (x y:List Nat) (i j:Nat) (hj:j<4):IntKind.wrap .u8 ((bp (x.getD i 0) (y.getD i 0) / 2^(8*j):Nat):Int)=((vZ x y (4*i+j)).toNat:Int):=by
 rw [wrap_u8,vZ,show (4*i+j) / 4=i by omega,show (4*i+j)%4=j by omega]
 simp
theorem Js (x y:List Nat) (i:Nat) (h:i<64):(FC x y)[i]?=some (vZ x y i):=by simp [FC,h]

theorem Fp (key nonce:List UInt8) (ctr:Nat) (w:World) (hk:key.length=32) (hn:nonce.length=12) (hc:ctr<4294967296):
   Calls Tryz.prog 364 #[.agg (bv key).toArray,.int .u32 (ctr:Int),.agg (bv nonce).toArray] w fun e w'=>e=.returned (.agg (bv (jr key ctr nonce)).toArray)∧Chg [] w w':=by
 apply wv
 obtain ⟨g1,w1,r1,h1⟩:=(St.start w).cz (P:=Tryz.prog) 39 (bv key)
 obtain ⟨g2,w2,r2,h2⟩:=h1.cz (P:=Tryz.prog) 287 (bv nonce)
 obtain ⟨g3,w3,r3,h3⟩:=h2.aD zero64
 refine ⟨_,_,r1,_,_,r2,_,_,r3,_,h3.ldA (i:=0) rfl (e32 _) (Tryz.sizeOf39 _) (by simp [hk]),_,h3.ldA (i:=1) rfl (e12 _) (Tryz.sizeOf287 _) (by simp [hn]),(EI key nonce ctr w3 hk hn hc).mono ?_⟩
 rintro e w4 ⟨rfl,hc4⟩
 have h4:=h3.same hc4
 have hF:=Fz key ctr nonce
 have hlF:=FN key nonce hc
 obtain ⟨F,hFd⟩:∃F,lK key ctr nonce=F:=⟨_,rfl⟩
 have hB:jr key ctr nonce=FC (eS 10 F) F:=by rw [jr,hFd]
 rw [hB]
 rw [hFd] at hF hlF ⊢
 obtain ⟨g5,w5,r5,h5⟩:=h4.aD xV
 obtain ⟨w6,r6,h6⟩:=h5.stA (i:=3) (v:=kv .u32 F) rfl (Tryz.sizeOf430 _) (by simp) (by simp [hF]) (fK _ _)
 obtain ⟨g7,w7,r7,h7⟩:=h6.aD xV
 obtain ⟨w8,r8,h8⟩:=h7.stA (i:=4) (v:=kv .u32 F) rfl (Tryz.sizeOf430 _) (by simp) (by simp [hF]) (fK _ _)
 refine ⟨_,rfl,_,_,r5,_,r6,_,h6.ldA (i:=3) rfl (e16 _) (Tryz.sizeOf430 _) (by simp [hF]),_,_,r7,_,r8,?_⟩
 obtain ⟨Mx,hMx⟩:∃Mx:List Nat→List Res,Mx=fun x=>[.arr g1 39 (bv key),.arr g2 287 (bv nonce),.arr g3 368 (bv (List.replicate 64 0)),.arr g5 430 (kv .u32 F),.arr g7 430 (kv .u32 x)]:=⟨_,rfl⟩
 have hi4:∀x,(Mx x)[4]?=some (.arr g7 430 (kv .u32 x)):=fun x=>by rw [hMx];rfl
 have hi3:∀x,(Mx x)[3]?=some (.arr g5 430 (kv .u32 F)):=fun x=>by rw [hMx];rfl
 have hi2:∀x,(Mx x)[2]?=some (.arr g3 368 (bv (List.replicate 64 0))):=fun x=>by rw [hMx];rfl
 have hset:∀x y,(Mx x).set 4 (.arr g7 430 (kv .u32 y))=Mx y:=fun x y=>by rw [hMx];rfl
 have h8':St w [] w8 (Mx F):=by rw [hMx];exact h8
 have hw:∀i:Nat,i<100→IntKind.wrap .i64 ((i:Int)+1)=((i+1:Nat):Int):=fun i h=>by rw [wrap_i64 (by omega) (by omega)];rfl
 have ze:∀k:Nat,0+Int.toNat (k:Int)*1=k:=fun k=>by omega
 have sU:∀w,(sizeOf 370).run Tryz.prog w=.ok 1 w:=fun w=>Tryz.sizeOf370 w
 have sB:∀w,(sizeOf 5).run Tryz.prog w=.ok 1 w:=fun w=>Tryz.sizeOf5 w
 -- a quarter round in place
 have step:∀(x:List Nat) (a b c d:Nat) (wa:World) (K:World→Prop),St w [] wa (Mx x)→x.length=16→cM x→a<16→b<16→c<16→d<16→a≠b→a≠c→a≠d→b≠c→b≠d→c≠d→(∀wb,St w [] wb (Mx (rnd x a b c d))→K wb)→
     (∃S:World→Prop,S wa.drew∧(0≤(a:Int)∧(a:Int)<16∧(0≤(b:Int)∧(b:Int)<16∧(0≤(c:Int)∧(c:Int)<16∧(0≤(d:Int)∧(d:Int)<16∧
       (∃ta:Int,(∀w',S w'→(Instr.loadAt 370 (.pointer (some ⟨g7,0+Int.toNat (a:Int)*1,none⟩))).run Tryz.prog w'=.ok (.int .u32 ta) w')∧
       (∃tb:Int,(∀w',S w'→(Instr.loadAt 370 (.pointer (some ⟨g7,0+Int.toNat (b:Int)*1,none⟩))).run Tryz.prog w'=.ok (.int .u32 tb) w')∧
       (∃tc:Int,(∀w',S w'→(Instr.loadAt 370 (.pointer (some ⟨g7,0+Int.toNat (c:Int)*1,none⟩))).run Tryz.prog w'=.ok (.int .u32 tc) w')∧
       (∃td:Int,(∀w',S w'→(Instr.loadAt 370 (.pointer (some ⟨g7,0+Int.toNat (d:Int)*1,none⟩))).run Tryz.prog w'=.ok (.int .u32 td) w')∧
         (Calls Tryz.prog 378 #[.int .u32 ta,.int .u32 tb,.int .u32 tc,.int .u32 td] wa.drew fun e w11=>∃t0 t1 t2 t3:Int,e=.returned (.tuple #[.int .u32 t0,.int .u32 t1,.int .u32 t2,.int .u32 t3])∧
           (∃S_1:World→Prop,(∀w',S_1 w'→S w')∧S_1 w11∧
             (0≤(a:Int)∧(a:Int)<16∧(∃w12,(Instr.storeAt 370 (.pointer (some ⟨g7,0+Int.toNat (a:Int)*1,none⟩)) (.int .u32 t0)).run Tryz.prog w11=.ok () w12∧
             (0≤(b:Int)∧(b:Int)<16∧(∃w13,(Instr.storeAt 370 (.pointer (some ⟨g7,0+Int.toNat (b:Int)*1,none⟩)) (.int .u32 t1)).run Tryz.prog w12=.ok () w13∧
             (0≤(c:Int)∧(c:Int)<16∧(∃w14,(Instr.storeAt 370 (.pointer (some ⟨g7,0+Int.toNat (c:Int)*1,none⟩)) (.int .u32 t2)).run Tryz.prog w13=.ok () w14∧
             (0≤(d:Int)∧(d:Int)<16∧(∃w15,(Instr.storeAt 370 (.pointer (some ⟨g7,0+Int.toNat (d:Int)*1,none⟩)) (.int .u32 t3)).run Tryz.prog w14=.ok () w15∧K w15))))))))))))))))))):=by
   intro x a b c d wa K hS hx hlx ha hb hcc hd ab ac ad bc bd cd hK
   refine ⟨fun w'=>St w [] w' (Mx x),hS.drew,by omega,by omega,by omega,by omega,by omega,by omega,by omega,by omega,_,fun w' h=>h.ldK (hi4 x) (eU _) (ze a) (by omega),_,fun w' h=>h.ldK (hi4 x) (eU _) (ze b) (by omega),_,fun w' h=>h.ldK (hi4 x) (eU _) (ze c) (by omega),_,fun w' h=>h.ldK (hi4 x) (eU _) (ze d) (by omega),?_⟩
   refine (BU _ _ _ _ _ (hlx b) (hlx d)).mono ?_
   rintro e w11 ⟨rfl,rfl⟩
   obtain ⟨w12,q1,s1⟩:=hS.drew.stK (n:=qA (x.getD a 0) (x.getD b 0) (x.getD c 0) (x.getD d 0)) (hi4 x) (sU _) (ze a) (by omega)
   rw [hset] at s1
   obtain ⟨w13,q2,s2⟩:=s1.stK (n:=qB (x.getD a 0) (x.getD b 0) (x.getD c 0) (x.getD d 0)) (hi4 _) (sU _) (ze b) (by simp;omega)
   rw [hset] at s2
   obtain ⟨w14,q3,s3⟩:=s2.stK (n:=qC (x.getD a 0) (x.getD b 0) (x.getD c 0) (x.getD d 0)) (hi4 _) (sU _) (ze c) (by simp;omega)
   rw [hset] at s3
   obtain ⟨w15,q4,s4⟩:=s3.stK (n:=qD (x.getD a 0) (x.getD b 0) (x.getD c 0) (x.getD d 0)) (hi4 _) (sU _) (ze d) (by simp;omega)
   rw [hset] at s4
   refine ⟨_,_,_,_,rfl,fun w'=>St w [] w' (Mx x),fun _ h=>h,hS.drew,by omega,by omega,w12,q1,by omega,by omega,w13,q2,by omega,by omega,w14,q3,by omega,by omega,w15,q4,hK _ ?_⟩
   rw [Mc (by omega) (by omega) (by omega) (by omega) ab ac ad bc bd cd]
   exact s4
 refine ⟨fun i w'=>∃k:Nat,i=(k:Int)∧k≤10∧St w [] w' (Mx (eS k F)),fun i _=>10-i.toNat,⟨0,rfl,by omega,h8'⟩,?_⟩
 rintro i w9 ⟨k,rfl,hk10,hS⟩
 refine ⟨fun h=>?_,fun h=>?_⟩
 · have hk':k<10:=by simp at h;omega
   refine ⟨fun i w'=>∃j:Nat,i=(j:Int)∧j≤4∧St w [] w' (Mx (wg j (eS k F))),fun i _=>4-i.toNat,⟨0,rfl,by omega,hS⟩,?_⟩
   rintro i w10 ⟨j,rfl,hj4,hS⟩
   refine ⟨fun h=>?_,fun h=>?_⟩
   · have hj':j<4:=by simp at h;omega
     have e1:IntKind.wrap .i64 ((4:Int)+(j:Int))=((4+j:Nat):Int):=by rw [wrap_i64 (by omega) (by omega)];omega
     have e2:IntKind.wrap .i64 ((8:Int)+(j:Int))=((8+j:Nat):Int):=by rw [wrap_i64 (by omega) (by omega)];omega
     have e3:IntKind.wrap .i64 ((12:Int)+(j:Int))=((12+j:Nat):Int):=by rw [wrap_i64 (by omega) (by omega)];omega
     rw [e1,e2,e3,hw j (by omega)]
     refine step _ j (4+j) (8+j) (12+j) _ _ hS (by simp [hF]) ((hlF.eS k).wg j) (by omega) (by omega) (by omega) (by omega) (by omega) (by omega) (by omega) (by omega) (by omega) (by omega) fun wb hb=>?_
     exact ⟨⟨j+1,rfl,by omega,hb⟩,by simp;omega⟩
   · have hj':j=4:=by simp at h;omega
     subst hj'
     refine ⟨fun i w'=>∃j:Nat,i=(j:Int)∧j≤4∧St w [] w' (Mx (zq j (wg 4 (eS k F)))),fun i _=>4-i.toNat,⟨0,rfl,by omega,hS⟩,?_⟩
     rintro i w11 ⟨j,rfl,hj4,hS⟩
     refine ⟨fun h=>?_,fun h=>?_⟩
     · have hj':j<4:=by simp at h;omega
       have e0:∀(u v:Nat),u<100→v<100→IntKind.wrap .i64 ((u:Int)+Int.tmod (IntKind.wrap .i64 ((j:Int)+(v:Int))) 4)=((u+(j+v)%4:Nat):Int):=fun u v hu hv=>by
         rw [show IntKind.wrap .i64 ((j:Int)+(v:Int))=((j+v:Nat):Int) by rw [wrap_i64 (by omega) (by omega)];omega,Int.tmod_eq_emod_of_nonneg (by omega),wrap_i64 (by omega) (by omega)];omega
       have e1:IntKind.wrap .i64 ((4:Int)+Int.tmod (IntKind.wrap .i64 ((j:Int)+1)) 4)=_:=e0 4 1 (by omega) (by omega)
       have e2:IntKind.wrap .i64 ((8:Int)+Int.tmod (IntKind.wrap .i64 ((j:Int)+2)) 4)=_:=e0 8 2 (by omega) (by omega)
       have e3:IntKind.wrap .i64 ((12:Int)+Int.tmod (IntKind.wrap .i64 ((j:Int)+3)) 4)=_:=e0 12 3 (by omega) (by omega)
       rw [e1,e2,e3,hw j (by omega)]
       refine step _ j (4+(j+1)%4) (8+(j+2)%4) (12+(j+3)%4) _ _ hS (by simp [hF]) (((hlF.eS k).wg 4).zq j) (by omega) (by omega) (by omega) (by omega) (by omega) (by omega) (by omega) (by omega) (by omega) (by omega) fun wb hb=>?_
       exact ⟨⟨j+1,rfl,by omega,hb⟩,by simp;omega⟩
     · have hj':j=4:=by simp at h;omega
       subst hj'
       rw [hw k (by omega)]
       exact ⟨⟨k+1,rfl,by omega,hS⟩,by simp;omega⟩
 · have hk':k=10:=by simp at h;omega
   subst hk'
   obtain ⟨g10,w10,r10,h10⟩:=hS.aD zero64
   obtain ⟨O,hO⟩:∃O,FC (eS 10 F) F=O:=⟨_,rfl⟩
   have hOl:O.length=64:=by rw [←hO];simp
   rw [hO]
   have hm5:∀y,(Mx (eS 10 F)++ [Res.arr g10 368 (bv y)])[5]?=some (.arr g10 368 (bv y)):=fun y=>by rw [hMx];rfl
   have hm4:∀y,(Mx (eS 10 F)++ [Res.arr g10 368 (bv y)])[4]?=some (.arr g7 430 (kv .u32 (eS 10 F))):=fun y=>by rw [hMx];rfl
   have hm3:∀y,(Mx (eS 10 F)++ [Res.arr g10 368 (bv y)])[3]?=some (.arr g5 430 (kv .u32 F)):=fun y=>by rw [hMx];rfl
   have hm2:∀y,(Mx (eS 10 F)++ [Res.arr g10 368 (bv y)])[2]?=some (.arr g3 368 (bv (List.replicate 64 0))):=fun y=>by rw [hMx];rfl
   have hms:∀x y,(Mx (eS 10 F)++ [Res.arr g10 368 (bv x)]).set 5 (.arr g10 368 (bv y))=Mx (eS 10 F)++ [Res.arr g10 368 (bv y)]:=fun x y=>by rw [hMx];rfl
   refine ⟨_,_,r10,fun i w'=>∃k:Nat,i=(k:Int)∧k≤16∧St w [] w' (Mx (eS 10 F)++ [.arr g10 368 (bv (upTo O (4*k)))]),fun i _=>16-i.toNat,⟨0,rfl,by omega,by rw [Nat.mul_zero,uP,hOl];exact h10⟩,?_⟩
   rintro i w11 ⟨k,rfl,hk16,hT⟩
   refine ⟨fun h=>?_,fun h=>?_⟩
   · have hk':k<16:=by simp at h;omega
     have e1:IntKind.wrap .i64 ((4:Int)*(k:Int))=((4*k:Nat):Int):=by rw [wrap_i64 (by omega) (by omega)];omega
     have e2:∀j:Nat,j<4→IntKind.wrap .i64 (((4*k:Nat):Int)+(j:Int))=((4*k+j:Nat):Int):=fun j hj=>by rw [wrap_i64 (by omega) (by omega)];omega
     have e21:=e2 1 (by omega)
     have e22:=e2 2 (by omega)
     have e23:=e2 3 (by omega)
     rw [show ((1:Nat):Int)=1 from rfl] at e21
     rw [show ((2:Nat):Int)=2 from rfl] at e22
     rw [show ((3:Nat):Int)=3 from rfl] at e23
     rw [e1,e21,e22,e23,hw k (by omega)]
     have ot:∀j,j<4→O[4*k+j]?=some (vZ (eS 10 F) F (4*k+j)):=fun j hj=>by rw [←hO];exact Js _ _ _ (by omega)
     have v0:IntKind.wrap .u8 (IntKind.wrap .u32 (((eS 10 F).getD k 0:Nat)+(F.getD k 0:Nat):Int))=((vZ (eS 10 F) F (4*k)).toNat:Int):=by
       rw [dO];have:=DX (eS 10 F) F k 0 (by omega);simpa using this
     have vj:∀(j:Nat),j<4→IntKind.wrap .u8 (dh .u32 (IntKind.wrap .u32 (((eS 10 F).getD k 0:Nat)+(F.getD k 0:Nat):Int)) ((8*j:Nat):Int))=((vZ (eS 10 F) F (4*k+j)).toNat:Int):=fun j hj=>by
       rw [dO,mP _ _ _ (show 8*j≤32 by omega)];exact DX (eS 10 F) F k j hj
     have v1:IntKind.wrap .u8 (dh .u32 (IntKind.wrap .u32 (((eS 10 F).getD k 0:Nat)+(F.getD k 0:Nat):Int)) 8)=_:=vj 1 (by omega)
     have v2:IntKind.wrap .u8 (dh .u32 (IntKind.wrap .u32 (((eS 10 F).getD k 0:Nat)+(F.getD k 0:Nat):Int)) 16)=_:=vj 2 (by omega)
     have v3:IntKind.wrap .u8 (dh .u32 (IntKind.wrap .u32 (((eS 10 F).getD k 0:Nat)+(F.getD k 0:Nat):Int)) 24)=_:=vj 3 (by omega)
     refine ⟨fun w'=>St w [] w' (Mx (eS 10 F)++ [.arr g10 368 (bv (upTo O (4*k)))]),hT.drew,by omega,by omega,by omega,by omega,_,fun w' h=>h.ldK (hm4 _) (eU _) (ze k) (by simp [hF];omega),_,fun w' h=>h.ldK (hm3 _) (eU _) (ze k) (by omega),by omega,by omega,?_⟩
     rw [v0,v1,v2,v3]
     obtain ⟨w12,q1,s1⟩:=hT.drew.stB (b:=vZ (eS 10 F) F (4*k)) (hm5 _) (sB _) (ze (4*k)) (by rw [iB (by omega)];omega)
     rw [hms,gU (show O[4*k]?=some (vZ (eS 10 F) F (4*k)) from ot 0 (by omega))] at s1
     obtain ⟨w13,q2,s2⟩:=s1.stB (b:=vZ (eS 10 F) F (4*k+1)) (hm5 _) (sB _) (ze (4*k+1)) (by rw [iB (by omega)];omega)
     rw [hms,gU (ot 1 (by omega))] at s2
     obtain ⟨w14,q3,s3⟩:=s2.stB (b:=vZ (eS 10 F) F (4*k+2)) (hm5 _) (sB _) (ze (4*k+2)) (by rw [iB (by omega)];omega)
     rw [hms,gU (ot 2 (by omega))] at s3
     obtain ⟨w15,q4,s4⟩:=s3.stB (b:=vZ (eS 10 F) F (4*k+3)) (hm5 _) (sB _) (ze (4*k+3)) (by rw [iB (by omega)];omega)
     rw [hms,gU (ot 3 (by omega))] at s4
     exact ⟨w12,q1,by omega,by omega,w13,q2,by omega,by omega,w14,q3,by omega,by omega,w15,q4,⟨k+1,rfl,by omega,s4⟩,by simp;omega⟩
   · have hk':k=16:=by simp at h;omega
     subst hk'
     rw [show 4*16=O.length by omega,wN] at hT
     refine ⟨_,hT.ldA (hm5 _) (e64 _) (Tryz.sizeOf368 _) (by simp [hOl]),?_⟩
     obtain ⟨w12,q1,s1⟩:=hT.stA (v:=bv O) (hm2 _) (Tryz.sizeOf368 _) (by simp) (by simp [hOl]) (aO _)
     refine ⟨w12,q1,_,s1.bQ (i:=2) (l:=bv O) (by rw [hMx];rfl) (e64 _) (Tryz.sizeOf368 _) (by simp [hOl]),rfl,s1.chg⟩

end Go.Proofs.YtpmhjnhgpplmnaaGreatDoor
end

section
namespace Go.Proofs.YtpmhjnhgpplmnaaGreatDoor
open Go Sx
set_option maxRecDepth 8000

def Nq (key nonce:List UInt8) (p:Nat):UInt8:=(jr key (p / 64) nonce).getD (p%64) 0
def v7 (key nonce:List UInt8) (at':Nat) (l:List UInt8):List UInt8:=l.mapIdx fun i b=>b^^^Nq key nonce (at'+i)
@[simp] theorem B5 (key nonce:List UInt8) (at':Nat) (l:List UInt8):(v7 key nonce at' l).length=l.length:=by simp [v7]
theorem KK {key nonce:List UInt8} {at':Nat} {l:List UInt8} {i:Nat} (h:i<l.length):(v7 key nonce at' l)[i]?=some (l.getD i 0^^^Nq key nonce (at'+i)):=by simp [v7,List.getD,h]

def mix (x l:List UInt8) (i:Nat):List UInt8:=x.take i++l.drop i
theorem IX (x l:List UInt8):mix x l 0=l:=by simp [mix]
theorem LN {x l:List UInt8} {n:Nat} (h:x.length=n) (h':l.length=n):mix x l n=x:=by simp [mix,←h,show l.length=x.length by omega]
theorem K5 {x l:List UInt8} {i:Nat} (h:x.length=l.length) (hi:i≤l.length):(mix x l i).length=l.length:=by simp [mix];omega
theorem KS {x l:List UInt8} {i:Nat} (h:x.length=l.length) (hi:i<l.length):(mix x l i).getD i 0=l.getD i 0:=by
 have hl:(x.take i).length=i:=by rw [List.length_take];omega
 simp [mix,List.getD,List.getElem?_append_right,hl]
theorem LQ {x l:List UInt8} {i:Nat} {b:UInt8} (h:x.length=l.length) (hb:x[i]?=some b):(mix x l i).set i b=mix x l (i+1):=by
 have hi:i<x.length:=(List.getElem?_eq_some_iff.1 hb).1
 have hl:(x.take i).length=i:=by rw [List.length_take];omega
 rw [mix,mix,List.set_append_right _ _ (by omega),hl,Nat.sub_self,List.drop_eq_getElem_cons (by omega:i<l.length),List.set_cons_zero,List.take_add_one,hb]
 simp

theorem Me (a b:UInt8):aU .u8 (a.toNat:Int) (b.toNat:Int)=((a^^^b).toNat:Int):=by
 rw [nM rfl (by simpa [eM,IntKind.bits] using a.toNat_lt) (by simpa [eM,IntKind.bits] using b.toNat_lt),UInt8.toNat_xor]

theorem Sx.Chg.range {w w':World} {X:List Nat} {b o:Nat} {cs:List Value} (hc:Chg X w w') (h:w.rangeAt b o cs) (hb:b∉X):w'.rangeAt b o cs:=by
 have hk:Cells w (some ⟨b,o,none⟩) cs:=.inr ⟨b,o,rfl,h⟩
 rcases hk.keep hc (by rintro ad ⟨⟩;exact hb) with h0 | ⟨b',o',he,hr⟩
 · subst h0;intro j v hj;simp at hj
 · simp only [Option.some.injEq,Addr.mk.injEq,and_true] at he
   obtain ⟨rfl,rfl⟩:=he
   exact hr

theorem Sx.St.MY {w:World} {e:TypeId} {sz:Nat} {g n m c:Nat} {xs:List Value} (h:w.ownsRow 0 e sz (.slice (some ⟨g,0,none⟩) n c) m xs):St w [g] w [.row e sz (.slice (some ⟨g,0,none⟩) n c) m xs]:=by
 have one:∀(i:Nat) (r:Res),[Res.row e sz (.slice (some ⟨g,0,none⟩) n c) m xs][i]?=some r→i=0∧r=.row e sz (.slice (some ⟨g,0,none⟩) n c) m xs:=by
   intro i r hr
   cases i with
   | zero=>exact ⟨rfl,(Option.some.inj hr).symm⟩
   | succ i=>simp at hr
 refine ⟨Chg.refl _ _,?_,?_,?_⟩
 · intro i r hr;obtain ⟨_,rfl⟩:=one i r hr;exact h
 · intro i r hr k hk;obtain ⟨_,rfl⟩:=one i r hr;right;simpa [Res.fp,Value.ownBlock] using hk
 · intro i j r s hij hi hj;have:=(one i r hi).1;have:=(one j s hj).1;omega

theorem y9 (gs o g n c at':Nat) (key nonce l:List UInt8) (w:World) (hk:key.length=32) (hn:nonce.length=12) (rk:w.rangeAt gs o (bv key)) (rn:w.rangeAt gs (o+32) (bv nonce)) (hne:gs≠g)
   (hrow:w.ownsRow 0 5 1 (.slice (some ⟨g,0,none⟩) n c) n (bv l)) (hat:at'+n≤274877906944):
   Calls Tryz.prog 328 #[.pointer (some ⟨gs,o,none⟩),.int .i64 (at':Int),.slice (some ⟨g,0,none⟩) n c] w fun e w'=>e=.returned (.tuple #[])∧Chg [g] w w'∧w'.ownsRow 0 5 1 (.slice (some ⟨g,0,none⟩) n c) n (bv (v7 key nonce at' l)):=by
 apply p6
 have hl:l.length=n:=by have:=hrow.1;simpa using this
 have ze:∀k:Nat,0+Int.toNat (k:Int)*1=k:=fun k=>by omega
 have sB:∀w,(sizeOf 5).run Tryz.prog w=.ok 1 w:=fun w=>Tryz.sizeOf5 w
 have s64:∀w,(sizeOf 368).run Tryz.prog w=.ok 64 w:=fun w=>Tryz.sizeOf368 w
 have s32:∀w,(sizeOf 39).run Tryz.prog w=.ok 32 w:=fun w=>Tryz.sizeOf39 w
 have s12:∀w,(sizeOf 287).run Tryz.prog w=.ok 12 w:=fun w=>Tryz.sizeOf287 w
 obtain ⟨X,hX⟩:∃X,v7 key nonce at' l=X:=⟨_,rfl⟩
 have hXl:X.length=l.length:=by rw [←hX];simp
 rw [hX]
 obtain ⟨g6,w1,r1,h1⟩:=(St.MY hrow).aD zero64
 obtain ⟨M,hM⟩:∃M:List UInt8→List UInt8→List Res,M=fun x B=>[.row 5 1 (.slice (some ⟨g,0,none⟩) n c) n (bv x),.arr g6 368 (bv B)]:=⟨_,rfl⟩
 have i0:∀x B,(M x B)[0]?=some (.row 5 1 (.slice (some ⟨g,0,none⟩) n c) n (bv x)):=fun x B=>by rw [hM];rfl
 have i1:∀x B,(M x B)[1]?=some (.arr g6 368 (bv B)):=fun x B=>by rw [hM];rfl
 have q0:∀x B y,(M x B).set 0 (.row 5 1 (.slice (some ⟨g,0,none⟩) n c) n (bv y))=M y B:=fun x B y=>by rw [hM];rfl
 have q1:∀x B y,(M x B).set 1 (.arr g6 368 (bv y))=M x y:=fun x B y=>by rw [hM];rfl
 have h1':St w [g] w1 (M (mix X l 0) (List.replicate 64 0)):=by rw [hM,IX];exact h1
 refine ⟨_,_,r1,fun x y w'=>∃(i:Nat) (B:List UInt8),y=(i:Int)∧i≤n∧B.length=64∧(x= -1∨∃h:Nat,x=(h:Int)∧B=jr key h nonce)∧St w [g] w' (M (mix X l i) B),fun _ y _=>n-y.toNat,
   ⟨0,_,rfl,by omega,by simp,.inl rfl,h1'⟩,?_⟩
 rintro x y w2 ⟨i,B,rfl,hi,hBl,hB,hS⟩
 refine ⟨fun h=>?_,fun h=>?_⟩
 · have hi':i<n:=by simp at h;omega
   have ea:IntKind.wrap .i64 ((at':Int)+(i:Int))=((at'+i:Nat):Int):=by rw [wrap_i64 (by omega) (by omega)];omega
   have ed:IntKind.wrap .i64 (Int.tdiv ((at'+i:Nat):Int) 64)=(((at'+i) / 64:Nat):Int):=by rw [Int.tdiv_eq_ediv_of_nonneg (by omega),wrap_i64 (by omega) (by omega)];omega
   have em:Int.tmod ((at'+i:Nat):Int) 64=(((at'+i)%64:Nat):Int):=by rw [Int.tmod_eq_emod_of_nonneg (by omega)];omega
   have ew:IntKind.wrap .u32 (((at'+i) / 64:Nat):Int)=(((at'+i) / 64:Nat):Int):=cF (by omega)
   have e1:IntKind.wrap .i64 ((i:Int)+1)=((i+1:Nat):Int):=by rw [wrap_i64 (by omega) (by omega)];rfl
   rw [ea,ed,em,ew,e1]
   refine ⟨fun x' w'=>x'=(((at'+i) / 64:Nat):Int)∧St w [g] w' (M (mix X l i) (jr key ((at'+i) / 64) nonce)),⟨fun hd=>?_,fun hd=>?_⟩,?_⟩
   · have kd:=fun (w':World) (h:St w [g] w' (M (mix X l i) B))=>h.chg.range rk (by simp [hne])
     have nd:=fun (w':World) (h:St w [g] w' (M (mix X l i) B))=>h.chg.range rn (by simp [hne])
     refine ⟨fun w'=>St w [g] w' (M (mix X l i) B),hS.drew,_,fun w' h=>BM (kd w' h) (e32 _) (s32 _) (by simp [hk]),_,fun w' h=>BM (nd w' h) (e12 _) (s12 _) (by simp [hn]),(Fp key nonce ((at'+i) / 64) _ hk hn (by omega)).mono ?_⟩
     rintro e w3 ⟨rfl,hc3⟩
     obtain ⟨w4,r4,h4⟩:=(hS.drew.same hc3).stA (v:=bv (jr key ((at'+i) / 64) nonce)) (i1 _ _) (s64 _) (by simp [hBl]) (by simp) (aO _)
     rw [q1] at h4
     exact ⟨_,rfl,fun w'=>St w [g] w' (M (mix X l i) B),fun _ h=>h,hS.drew.same hc3,w4,r4,rfl,h4⟩
   · have hx:x=(((at'+i) / 64:Nat):Int):=by simp at hd;exact hd.symm
     rcases hB with h0 | ⟨h',h0,hBh⟩
     · omega
     · have:h'=(at'+i) / 64:=by omega
       rw [this] at hBh
       exact ⟨hx,by rw [←hBh];exact hS⟩
   · rintro x' w5 ⟨rfl,h5⟩
     have hlt:(at'+i)%64<64:=Nat.mod_lt _ (by decide)
     have hml:=K5 hXl (show i≤l.length by omega)
     have ldm:∀w',St w [g] w' (M (mix X l i) (jr key ((at'+i) / 64) nonce))→(Instr.loadAt 5 (.pointer (some ⟨g,0+Int.toNat (i:Int)*1,none⟩))).run Tryz.prog w'=.ok (.int .u8 ((l.getD i 0).toNat:Int)) w':=fun w' h=>by
       have hc:=h.cells (i0 _ _)
       have hv:(bv (mix X l i))[i]?=some (.int .u8 ((l.getD i 0).toNat:Int)):=by rw [rN (by omega),KS hXl (by omega)]
       obtain ⟨b,o',he,hcell⟩:=hc.at_ hv
       simp only [Option.some.injEq,Addr.mk.injEq,and_true] at he
       obtain ⟨rfl,rfl⟩:=he
       rw [show 0+Int.toNat (i:Int)*1=0+i by omega]
       exact ld1 (bA _) hcell
     refine ⟨fun w'=>St w [g] w' (M (mix X l i) (jr key ((at'+i) / 64) nonce)),h5.drew,g,0,rfl,by omega,by omega,by omega,by omega,_,ldm,_,fun w' h=>h.ldB (i1 _ _) (bA _) (ze ((at'+i)%64)) (by simpa using hlt),g,0,rfl,by omega,by omega,?_⟩
     rw [Me,show 0+Int.toNat (i:Int)*1=i by omega]
     obtain ⟨w6,r6,h6⟩:=h5.drew.KG (v:=.int .u8 ((l.getD i 0^^^(jr key ((at'+i) / 64) nonce).getD ((at'+i)%64) 0).toNat:Int)) (i0 _ _) (sB _) hi' rfl
     rw [xI,q0,LQ hXl (by rw [←hX];exact KK (by omega))] at h6
     exact ⟨w6,r6,⟨i+1,_,rfl,by omega,by simp,.inr ⟨_,rfl,rfl⟩,h6⟩,by simp;omega⟩
 · have hi':i=n:=by simp at h;omega
   subst hi'
   rw [LN (by omega) (by omega)] at hS
   exact ⟨rfl,hS.chg,hS.holds 0 _ (i0 _ _)⟩

def oh (x:Int) (n:Nat):Bool:=decide (0≤x)&&decide (x+n≤274877906944)
def Lu (x:Int) (n:Nat):Option Int:=if oh x n then none else some 8
def Hi (key nonce:List UInt8) (x:Int) (l:List UInt8):List UInt8:=if oh x l.length then v7 key nonce x.toNat l else []

theorem Ih (x:Int) (n:Nat) (w:World) (h1: -9223372036854775808≤x) (h2:x≤9223372036854775807) (hn:n≤9223372036854775807):Calls Tryz.prog 327 #[.int .i64 x,.int .i64 (n:Int)] w fun e w'=>e=.returned (.bool (oh x n))∧w'=w:=by
 apply xd
 refine ⟨?_,rfl⟩
 have:(((decide (x≥(0:Int)))&&(decide (x≤(274877906944:Int))))&&(decide ((n:Int)≤(IntKind.wrap .i64 ((274877906944:Int)-x)))))=oh x n:=by
   by_cases h0:0≤x
   · rw [wrap_i64 (by omega) (by omega)]
     simp only [oh]
     rw [Bool.eq_iff_iff]
     simp only [Bool.and_eq_true,decide_eq_true_eq]
     omega
   · simp [oh,h0]
 rw [this]

theorem EO:Tryz.prog.built 428=fun parts=>Instr.fill (fun i=>(#[(0,32),(32,12)]:Array (Nat×Nat))[i]?) (bv (List.replicate 44 0)).toArray parts:=by kernel_rfl

theorem Fj (key nonce:List UInt8) (hk:key.length=32) (hn:nonce.length=12) (w:World):(Instr.build 428 #[(0,.agg (bv key).toArray),(1,.agg (bv nonce).toArray)]).run Tryz.prog w=.ok (.agg (bv key++bv nonce).toArray) w:=by
 apply run_build
 rw [EO]
 show Instr.fill _ _ [(0,.agg (bv key).toArray),(1,.agg (bv nonce).toArray)]=_
 rw [aC (off:=0) (sz:=32) rfl (by simp [Value.cells,hk]) (by simp),aC (off:=32) (sz:=12) rfl (by simp [Value.cells,hn]) (by simp [Value.cells,hk])]
 simp [Instr.fill,Value.cells,hk,hn]

theorem Km (key nonce:List UInt8) (x:Int) (a:Option Addr) (n c:Nat) (l:List UInt8) (w:World) (hk:key.length=32) (hn:nonce.length=12) (h1: -9223372036854775808≤x) (h2:x≤9223372036854775807) (hr:RdB w a n c l) (hb:n≤9223372036854775807):
   Calls Tryz.prog 272 #[.agg (bv key).toArray,.agg (bv nonce).toArray,.int .i64 x,.slice a n c] w fun e w'=>∃a' n' c',e=.returned (.tuple #[.slice a' n' c',bG (Lu x n)])∧aY w w' a' n' c' (Hi key nonce x l):=by
 have hl:=hr.bB
 apply zi
 have s32:∀w,(sizeOf 39).run Tryz.prog w=.ok 32 w:=fun w=>Tryz.sizeOf39 w
 have s12:∀w,(sizeOf 287).run Tryz.prog w=.ok 12 w:=fun w=>Tryz.sizeOf287 w
 obtain ⟨g1,w1,r1,k1⟩:=(St.start w).cz (P:=Tryz.prog) 39 (bv key)
 obtain ⟨g2,w2,r2,k2⟩:=k1.cz (P:=Tryz.prog) 287 (bv nonce)
 refine ⟨_,_,r1,_,_,r2,(Ih x n w2 h1 h2 hb).mono ?_⟩
 rintro e w3 ⟨rfl,rfl⟩
 refine ⟨_,rfl,fun h=>?_,fun h=>?_⟩
 · have hf:oh x n=false:=by simpa using h
   refine ⟨none,0,0,by simp [Lu,hf,bG],?_⟩
   rw [Hi,hl,hf]
   exact ⟨k2.chg,rfl,World.ownsRow_nil _ _ _ _⟩
 · have hf:oh x n=true:=by simpa using h
   have hx0:0≤x∧x+n≤274877906944:=by simpa [oh] using hf
   obtain ⟨at',rfl⟩:=Int.eq_ofNat_of_zero_le hx0.1
   obtain ⟨g,w4,r4,k4⟩:=k2.Lh (kl:=.i64) (kc:=.i64) (c:=n) bT (by omega) (by omega)
   obtain ⟨va,vc,w5,r5,k5,hin,_⟩:=k4.append (i:=2) (ty:=26) bT rfl (k4.rd1 hr) (aO l) (by omega) (by simp only [maxLen];omega)
   have hv:=hin (by omega)
   rw [Nat.zero_add,hv.1,hv.2] at r5 k5
   refine ⟨_,_,_,_,r4,_,_,_,_,r5,_,k5.ldA (i:=0) rfl (e32 _) (s32 _) (by simp [hk]),_,k5.ldA (i:=1) rfl (e12 _) (s12 _) (by simp [hn]),_,Fj key nonce hk hn _,?_⟩
   obtain ⟨g6,w6,r6,k6⟩:=k5.cz (P:=Tryz.prog) 428 (bv key++bv nonce)
   refine ⟨_,_,r6,?_⟩
   have rng:=k6.ku (i:=3) rfl
   have hne:g6≠g:=fun e=>k6.apart 3 2 _ _ (by decide) rfl rfl g6 (by simp [Res.fp]) (by simp [Res.fp,Value.ownBlock,e])
   have rk:w6.rangeAt g6 0 (bv key):=fun j v hj=>rng j v (by rw [List.getElem?_append_left (List.getElem?_eq_some_iff.1 hj).1];exact hj)
   have rn:w6.rangeAt g6 (0+32) (bv nonce):=fun j v hj=>by
     have:=rng (32+j) v (by rw [List.getElem?_append_right (by simp [hk]),cN,hk,Nat.add_sub_cancel_left];exact hj)
     rw [show 0+32+j=0+(32+j) by omega];exact this
   refine (y9 g6 0 g n n at' key nonce l w6 hk hn rk rn hne (k6.holds 2 _ rfl) (by omega)).mono ?_
   rintro e w7 ⟨rfl,hc7,hrow⟩
   have he:bG (Lu (at':Int) n)=.nilIface:=by simp [Lu,hf,bG]
   rw [he]
   refine ⟨rfl,_,_,_,rfl,?_⟩
   rw [Hi,hl,hf,if_pos rfl,Int.toNat_natCast]
   have:=k6.upd (i:=2) (r':=.row 5 1 (.slice (some ⟨g,0,none⟩) n n) n (bv (v7 key nonce at' l))) rfl (by simpa [Res.fp,Value.ownBlock] using hc7) hrow (by simp [Res.fp,Value.ownBlock])
   exact this.jm (i:=2) rfl

end Go.Proofs.YtpmhjnhgpplmnaaGreatDoor
end

section
namespace Go.Proofs.YtpmhjnhgpplmnaaGreatDoor
open Go Sx
set_option maxRecDepth 8000

def ji (salt secret info:List UInt8):List UInt8:=iz salt secret info 32
@[simp] theorem jS (salt secret info:List UInt8):(ji salt secret info).length=32:=D2 _ _ _ _
def nW:List UInt8:=[97,109,112,104,111,114,97]
def bD (m:List UInt8):List UInt8:=ji nW m [99,105,112,104,101,114]++ji nW m [109,97,99]++ji nW m [110,97,109,101]
@[simp] theorem og (m:List UInt8):(bD m).length=96:=by simp [bD]

def LS (K:List UInt8):List UInt8:=K.take 32
def J6 (K:List UInt8):List UInt8:=(K.drop 32).take 32
def lE (K:List UInt8):List UInt8:=(K.drop 64).take 32

def uO (K:List UInt8) (kind:UInt8) (ctx nonce body:List UInt8):List UInt8:=dx (J6 K) (b9 [[kind],ctx,nonce,body])
@[simp] theorem Nv (K:List UInt8) (kind:UInt8) (ctx nonce body:List UInt8):(uO K kind ctx nonce body).length=32:=oV _ _
def gW (K:List UInt8) (kind:UInt8) (ctx plain:List UInt8):List UInt8:=(dx (lE K) (b9 [[kind],ctx,plain])).take 12
@[simp] theorem EC (K:List UInt8) (kind:UInt8) (ctx plain:List UInt8):(gW K kind ctx plain).length=12:=by rw [gW,List.length_take,oV];rfl
def gJ (K nonce b:List UInt8):List UInt8:=Hi (LS K) nonce 0 b
def dD (K:List UInt8) (kind:UInt8) (ctx plain:List UInt8):List UInt8:=
 [kind]++gW K kind ctx plain++gJ K (gW K kind ctx plain) plain++uO K kind ctx (gW K kind ctx plain) (gJ K (gW K kind ctx plain) plain)
def jx (b:List UInt8):List UInt8:=(b.drop 1).take 12
def bBody (b:List UInt8):List UInt8:=(b.drop 13).take (b.length-45)
def zI (b:List UInt8):List UInt8:=b.drop (b.length-32)
def gN (K:List UInt8) (kind:UInt8) (ctx b:List UInt8):Option (List UInt8):=
 if b.length<45∨b.getD 0 0≠kind then none else if uO K kind ctx (jx b) (bBody b)=zI b then some (gJ K (jx b) (bBody b)) else none
def idF (K plain:List UInt8):List UInt8:=dx (lE K) (b9 [[99,104,117,110,107],plain])
def iQ (pw salt:List UInt8):List UInt8:=bD (ji salt pw [107,101,121])

theorem wD (s:ByteArray) (l:List UInt8) (hs:s=⟨l.toArray⟩) (w:World):∃g c w',(convert 9 26 (.string s)).run Tryz.prog w=.ok (.slice (some ⟨g,0,none⟩) l.length c) w'∧Chg [] w w'∧RdB w' (some ⟨g,0,none⟩) l.length c l∧w.heap.size≤g:=by
 subst hs
 have hsz:(ByteArray.mk l.toArray).size=l.length:=by simp [ByteArray.size]
 have hr:=Lib.run_convert_string_bytes (P:=Tryz.prog) w 9 26 5 ⟨l.toArray⟩ sS bS bE
 rw [hsz] at hr
 refine ⟨_,_,_,hr,⟨?_,?_,?_,by rw [Lib.bytesWorld_size];omega,fun k hk _=>Lib.bytesWorld_at_old w _ _ k hk⟩,⟨.inr ⟨_,0,rfl,fun j v hj=>?_⟩,by simp,grownCap_ge _ _ _ _,by simp⟩,Nat.le_refl _⟩
 · (simp only [Lib.bytesWorld,World.freeze];split<;>rfl)
 · (simp only [Lib.bytesWorld,World.freeze];split<;>rfl)
 · (simp only [Lib.bytesWorld,World.freeze];split<;>rfl)
 · have hjl:j<l.length:=by have:=(List.getElem?_eq_some_iff.1 hj).1;simpa using this
   rw [Nat.zero_add,Lib.bytesWorld_cell w _ _ j (by rw [hsz];exact hjl)]
   rw [rN hjl] at hj
   simpa using hj

theorem HA (g n c:Nat) (l:List UInt8) (w:World) (hr:RdB w (some ⟨g,0,none⟩) n c l) (hg:g<w.heap.size):∃w',(convert 26 26 (.slice (some ⟨g,0,none⟩) n c)).run Tryz.prog w=.ok (.slice (some ⟨g,0,none⟩) n c) w'∧Chg [g] w w'∧RdB w' (some ⟨g,0,none⟩) n c l:=by
 have hfz:∀(o m:Nat),Chg [g] w (w.freeze ⟨g,o,none⟩ m)∧∀j,(w.freeze ⟨g,o,none⟩ m).cell? ⟨g,j,none⟩=w.cell? ⟨g,j,none⟩:=by
   intro o m
   unfold World.freeze
   split
   · exact ⟨Chg.refl _ _,fun _=>rfl⟩
   · refine ⟨⟨rfl,rfl,rfl,by simp,fun k hk hx=>?_⟩,fun j=>?_⟩
     · have:g≠k:=fun e=>hx (by simp [e])
       simp [Array.getElem?_modify,this]
     · simp only [World.cell?,Array.getElem?_modify,if_true]
       cases hc:w.heap[g]? with
       | none=>rfl
       | some o=>cases o<;>rfl
 have hrd:∀w',(∀j,w'.cell? ⟨g,j,none⟩=w.cell? ⟨g,j,none⟩)→RdB w' (some ⟨g,0,none⟩) n c l:=fun w' h=>by
   refine ⟨?_,hr.len,hr.le,hr.nil⟩
   rcases hr.cells with h0 | ⟨b,o,e,h1⟩
   · exact .inl h0
   · simp only [Option.some.injEq,Addr.mk.injEq,and_true] at e
     obtain ⟨rfl,rfl⟩:=e
     exact .inr ⟨_,_,rfl,fun j v hj=>by rw [h];exact h1 j v hj⟩
 cases hsh:w.shape? g with
 | none=>exact ⟨w,by simp [convert,run_underlying bS,run_underlying bE,markStringish,hsh],Chg.refl _ _,hr⟩
 | some p=>exact ⟨w.freeze ⟨g,p.2,none⟩ 1,by simp [convert,run_underlying bS,run_underlying bE,markStringish,hsh],(hfz _ _).1,hrd _ (hfz _ _).2⟩

theorem Sx.St.Kn {w0 w:World} {X:List Nat} {M:List Res} (h:St w0 X w M) {i g T o n:Nat} {l:List UInt8} (hi:M[i]?=some (.arr g T (bv l))) (ho:o+n≤l.length):RdB w (some ⟨g,o,none⟩) n n ((l.drop o).take n):=by
 refine ⟨.inr ⟨g,o,rfl,fun j u hj=>?_⟩,by simp;omega,Nat.le_refl _,by simp⟩
 have hjn:j<n:=by have:=(List.getElem?_eq_some_iff.1 hj).1;simp at this;omega
 have h1:(bv l)[o+j]?=some u:=by
   rw [←hj,jI,fB,List.getElem?_take,if_pos hjn,List.getElem?_drop]
 have:=h.ku hi (o+j) u h1
 rwa [Nat.zero_add] at this

end Go.Proofs.YtpmhjnhgpplmnaaGreatDoor
end

section
namespace Go.Proofs.YtpmhjnhgpplmnaaGreatDoor.Sx
open Go
set_option maxRecDepth 8000

theorem fE {α β:Type} {enc:α→List β} {k:Nat} :∀ {l:List α},(∀x∈l,(enc x).length=k)→(l.flatMap enc).length=k*l.length
 | [],_=>by simp
 | x::l,h=>by
   rw [List.flatMap_cons,List.length_append,fE fun y hy=>h y (by simp [hy]),h x (by simp),List.length_cons,Nat.mul_succ]
   omega

theorem rZ {α β:Type} {enc:α→List β} {k:Nat} :∀ {l:List α} (i:Nat),(∀x∈l,(enc x).length=k)→(l.flatMap enc).drop (i*k)=(l.drop i).flatMap enc
 | l,0,_=>by simp
 | [],i+1,_=>by simp
 | x::l,i+1,h=>by
   have hx:=h x (by simp)
   rw [List.flatMap_cons,List.drop_succ_cons,←rZ i fun y hy=>h y (by simp [hy])]
   rw [show (i+1)*k=(enc x).length+i*k by rw [hx,Nat.succ_mul];omega,List.drop_append]
   rw [List.drop_of_length_le (by omega),List.nil_append]
   congr 1
   omega

theorem xy {α β:Type} {enc:α→List β} {k:Nat} {l:List α} (h:∀x∈l,(enc x).length=k) {i j:Nat} {x:α} (hx:l[i]?=some x) (hj:j<k):(l.flatMap enc)[i*k+j]?=(enc x)[j]?:=by
 rw [←List.getElem?_drop,rZ i h]
 have hi:=(List.getElem?_eq_some_iff.1 hx).1
 rw [List.drop_eq_getElem_cons hi]
 have e:l[i]=x:=(List.getElem?_eq_some_iff.1 hx).2
 rw [e,List.flatMap_cons,List.getElem?_append_left (by rw [h x (List.mem_of_getElem? hx)];exact hj)]

structure RdE {α:Type} (enc:α→List Value) (k:Nat) (w:World) (a:Option Addr) (n c:Nat) (l:List α):Prop where
 rd:Rd w a n c k (l.flatMap enc)
 len:∀x∈l,(enc x).length=k

section
variable {P:Program} {α:Type} {enc:α→List Value} {k:Nat} {w w':World} {a:Option Addr} {n c:Nat} {l:List α}

theorem RdE.num (h:RdE enc k w a n c l) (hk:0<k):l.length=n:=by
 have h1:=h.rd.len
 rw [fE h.len,Nat.mul_comm] at h1
 exact Nat.eq_of_mul_eq_mul_right hk h1
theorem RdE.au (h:RdE enc k w a n c l) (hc:Chg [] w w'):RdE enc k w' a n c l:=⟨h.rd.au hc,h.len⟩
theorem RdE.nil (w:World):RdE enc k w none 0 0 []:=⟨⟨Cells.nil _ _,by simp,Nat.le_refl _,fun _=>rfl⟩,by simp⟩

theorem RdE.at_ (h:RdE enc k w a n c l) (hk:0<k) {i:Nat} {x:α} (hx:l[i]?=some x):∃b o,a=some ⟨b,o,none⟩∧∀w',RdE enc k w' a n c l→w'.rangeAt b (o+i*k) (enc x):=by
 have key:∀w',RdE enc k w' a n c l→∃b o,a=some ⟨b,o,none⟩∧w'.rangeAt b (o+i*k) (enc x):=by
   intro w' h'
   rcases h'.rd.cells with h0 | ⟨b,o,rfl,hr⟩
   · have h1:=fE h'.len
     rw [h0] at h1
     have:=(List.getElem?_eq_some_iff.1 hx).1
     simp only [List.length_nil] at h1
     rcases Nat.mul_eq_zero.1 h1.symm with h2 | h2<;>omega
   · refine ⟨b,o,rfl,fun j v hv=>?_⟩
     have hj:j<k:=by have:=(List.getElem?_eq_some_iff.1 hv).1;have:=h'.len x (List.mem_of_getElem? hx);omega
     have:=hr (i*k+j) v (by rw [xy h'.len hx hj];exact hv)
     rw [Nat.add_assoc]
     exact this
 obtain ⟨b,o,rfl,_⟩:=key w h
 refine ⟨b,o,rfl,fun w' h'=>?_⟩
 obtain ⟨b',o',e,hr⟩:=key w' h'
 simp only [Option.some.injEq,Addr.mk.injEq,and_true] at e
 obtain ⟨rfl,rfl⟩:=e
 exact hr

theorem RdE.ld (h:RdE enc k w a n c l) (hk:0<k) {T:TypeId} (hA:∀w,(isAgg T).run P w=.ok true w) (hS:∀w,(sizeOf T).run P w=.ok k w) {i:Nat} {x:α} (hx:l[i]?=some x):
   ∃b o,a=some ⟨b,o,none⟩∧∀w',RdE enc k w' a n c l→(Instr.loadAt T (.pointer (some ⟨b,o+Int.toNat (i:Int)*k,none⟩))).run P w'=.ok (.agg (enc x).toArray) w':=by
 obtain ⟨b,o,rfl,hr⟩:=h.at_ hk hx
 refine ⟨b,o,rfl,fun w' h'=>?_⟩
 have:=cu (P:=P) (hr w' h')
 rw [h'.len x (List.mem_of_getElem? hx)] at this
 rw [Int.toNat_natCast]
 simp [Instr.loadAt,Instr.sureAddr,loadVar,hA,hS,this]

end

theorem RdE.fld {P:Program} {α:Type} {enc:α→List Value} {k:Nat} {w:World} {a:Option Addr} {n c:Nat} {l:List α} (h:RdE enc k w a n c l) (hk:0<k) {T:TypeId} (hA:∀w,(isAgg T).run P w=.ok false w) {i j:Nat} {x:α} {v:Value} (hx:l[i]?=some x) (hv:(enc x)[j]?=some v):
   ∃b o,a=some ⟨b,o,none⟩∧∀w',RdE enc k w' a n c l→(Instr.loadAt T (.pointer (some ⟨b,o+Int.toNat (i:Int)*k+j,none⟩))).run P w'=.ok v w':=by
 obtain ⟨b,o,rfl,hr⟩:=h.at_ hk hx
 refine ⟨b,o,rfl,fun w' h'=>?_⟩
 rw [Int.toNat_natCast]
 exact ld1 (hA _) (hr w' h' j v hv)

end Go.Proofs.YtpmhjnhgpplmnaaGreatDoor.Sx
end

section
namespace Go.Proofs.YtpmhjnhgpplmnaaGreatDoor.Sx
open Go
set_option maxRecDepth 8000

theorem Gb {P:Program} {T e n d:Nat} {k:IntKind} (hT:P.underlying T=some (.array n e)) (hs:∀w,(sizeOf e).run P w=.ok 1 w) (hA:∀w,(isAgg e).run P w=.ok false w)
   (hd:∀a b w,(Op.equalIn d e (.int k a) (.int k b)).run P w=.ok (a==b) w) (l m:List Int) (hl:l.length=n) (hm:m.length=n) (w:World):
   (Op.equalIn (d+1) T (.agg (l.map (Value.int k)).toArray) (.agg (m.map (Value.int k)).toArray)).run P w=.ok (decide (l=m)) w:=by
 have hp:∀(l:List Int),l.length=n→∀(i:Nat) (w:World),i<n→(part e (l.map (Value.int k)).toArray i).run P w=.ok (.int k (l.getD i 0)) w:=by
   intro l hl i w hi
   simp [part,hA,hs,show i<l.length by omega]
 have key:∀(js:List Nat) (w:World),(∀j∈js,j<n)→(forIn (m:=Sem) js ((none,()):Option Bool×Unit) fun i (_:Option Bool×Unit)=>do
     let a ←part e (l.map (Value.int k)).toArray i
     let b ←part e (m.map (Value.int k)).toArray i
     let c ←Op.equalIn d e a b
     if c=false then pure (ForInStep.done (some false,())) else pure (ForInStep.yield (none,()))).run P w=.ok (if js.all (fun j=>l.getD j 0==m.getD j 0) then (none,()) else (some false,())) w:=by
   intro js
   induction js with
   | nil=>intro w _;simp
   | cons j js ih=>
     intro w hj
     simp only [List.forIn_cons,Sem.run_bind,hp l hl j w (hj j (by simp)),hp m hm j w (hj j (by simp)),Result.andThen_ok,hd,List.all_cons]
     rcases Bool.eq_false_or_eq_true (l.getD j 0==m.getD j 0) with hb | hb
     · simp only [hb,Bool.true_and]
       simpa using ih w (fun i hi=>hj i (by simp [hi]))
     · simp only [hb,Bool.false_and]
       simp
 have hall:(List.range' 0 n).all (fun j=>l.getD j 0==m.getD j 0)=decide (l=m):=by
   rw [Bool.eq_iff_iff]
   simp only [List.all_eq_true,beq_iff_eq,decide_eq_true_eq,List.mem_range'_1]
   constructor
   · intro h
     apply List.ext_getElem (by omega)
     intro i h1 h2
     have:=h i ⟨by omega,by omega⟩
     simpa [List.getD,h1,h2] using this
   · intro h;subst h;intro _ _;rfl
 simp only [Op.equalIn,Sem.run_bind,run_underlying hT,Result.andThen_ok,hs]
 have k0:=key (List.range' 0 n) w (by simp [List.mem_range'_1])
 rw [hall] at k0
 by_cases h:l=m
 · simp only [h,decide_true,if_true] at k0
   simp [h,k0]
 · simp only [h,decide_false,Bool.false_eq_true,if_false] at k0
   simp [h,k0]

theorem Ic {P:Program} {T e n:Nat} {k:IntKind} (hT:P.underlying T=some (.array n e)) (he:P.underlying e=some (.int k)) (hs:∀w,(sizeOf e).run P w=.ok 1 w) (hA:∀w,(isAgg e).run P w=.ok false w) (hg:P.eqGuardType P.depth T=false)
   (x y:Operand) (l m:List Int) (hl:l.length=n) (hm:m.length=n) (w:World):(fF .eql T x y (.agg (l.map (Value.int k)).toArray) (.agg (m.map (Value.int k)).toArray)).run P w=.ok (.bool (decide (l=m))) w∧
   (fF .neq T x y (.agg (l.map (Value.int k)).toArray) (.agg (m.map (Value.int k)).toArray)).run P w=.ok (.bool (!decide (l=m))) w:=by
 have h1:=Gb (d:=9999) hT hs hA (fun a b w=>by rw [run_equalIn_int w 9998 e k k a b he]) l m hl hm w
 refine ⟨?_,?_⟩
 · simp only [fF,Sem.run_bind,run_eqGuard_agg w .eql T x y _ _ hg,Result.andThen_ok,run_eql_struct w,h1]
 · simp only [fF,Sem.run_bind,run_eqGuard_agg w .neq T x y _ _ hg,Result.andThen_ok]
   simp [binOp,Op.equal,show Op.maxDepth=9999+1 from rfl,h1]

theorem F8 {l m:List UInt8} :(l.map fun b=>(b.toNat:Int))=(m.map fun b=>(b.toNat:Int))↔l=m:=by
 constructor
 · intro h
   apply List.ext_getElem?
   intro i
   have:=congrArg (fun q=>q[i]?) h
   simp only [List.getElem?_map] at this
   cases h1:l[i]?<;>cases h2:m[i]?<;>simp [h1,h2] at this ⊢
   exact UInt8.toNat_inj.1 (by omega)
 · intro h;rw [h]

end Go.Proofs.YtpmhjnhgpplmnaaGreatDoor.Sx
end

section
namespace Go.Proofs.YtpmhjnhgpplmnaaGreatDoor
open Go Sx
set_option maxRecDepth 8000

structure bw where
 id:List UInt8
 pack:Int
 at_:Int
 len:Int
 idl:id.length=32
 pk: -9223372036854775808≤pack∧pack≤9223372036854775807
 ak: -9223372036854775808≤at_∧at_≤9223372036854775807
 lk: -9223372036854775808≤len∧len≤9223372036854775807
def dX:bw:=⟨List.replicate 32 0,0,0,0,by simp,by omega,by omega,by omega⟩
instance:Inhabited bw:=⟨dX⟩
def aF (r:bw):List Value:=bv r.id++ [.int .i64 r.pack,.int .i64 r.at_,.int .i64 r.len]
@[simp] theorem aJ (r:bw):(aF r).length=35:=by simp [aF,r.idl]
theorem dR (r:bw):∀v∈aF r,v.oneCell'=true:=fun v hv=>by
 simp only [aF,List.mem_append,List.mem_cons,List.not_mem_nil,or_false] at hv
 rcases hv with hv | rfl | rfl | rfl
 · exact aO _ v hv
 · rfl
 · rfl
 · rfl
theorem Ea (w:World):(isAgg 87).run Tryz.prog w=.ok true w:=Tryz.isAgg87 w

theorem zU (w:World):(sizeOf 87).run Tryz.prog w=.ok 32 w:=Tryz.sizeOf87 w

abbrev Refs:=List bw

theorem rfA (w:World):(isAgg 100).run Tryz.prog w=.ok true w:=Tryz.isAgg100 w

theorem rfS (w:World):(sizeOf 100).run Tryz.prog w=.ok 35 w:=Tryz.sizeOf100 w

theorem inA (w:World):(isAgg 3).run Tryz.prog w=.ok false w:=Tryz.isAgg3 w

section
variable {w0 w w':World} {X:List Nat}
theorem uG {M:List Res} {i g:Nat} {T:TypeId} {r:bw} (h:St w0 X w M) (hi:M[i]?=some (.arr g T (aF r))):
   (Instr.loadAt 3 (.pointer (some ⟨g,32,none⟩))).run Tryz.prog w=.ok (.int .i64 r.pack) w∧(Instr.loadAt 3 (.pointer (some ⟨g,33,none⟩))).run Tryz.prog w=.ok (.int .i64 r.at_) w∧(Instr.loadAt 3 (.pointer (some ⟨g,34,none⟩))).run Tryz.prog w=.ok (.int .i64 r.len) w:=by
 refine ⟨h.ldL hi (inA _) rfl ?_,h.ldL hi (inA _) rfl ?_,h.ldL hi (inA _) rfl ?_⟩<;>rw [aF,List.getElem?_append_right (by simp [r.idl])]<;>simp [r.idl]
end

abbrev RdR (w:World) (a:Option Addr) (n c:Nat) (l:Refs):Prop:=RdE aF 35 w a n c l

theorem rfT:gz Tryz.prog 48 100 35 56 (.agg (aF dX).toArray):=⟨by kernel_rfl,⟨Tryz.t100,by kernel_rfl,by kernel_rfl,by kernel_rfl,by kernel_rfl⟩,rfl,by decide⟩

theorem OC (w:World):(sizeOf 5).run Tryz.prog w=.ok 1 w:=Tryz.sizeOf5 w
theorem LR (x y:Operand) (l m:List UInt8) (hl:l.length=32) (hm:m.length=32) (w:World):(fF .eql 87 x y (.agg (bv l).toArray) (.agg (bv m).toArray)).run Tryz.prog w=.ok (.bool (decide (l=m))) w∧(fF .neq 87 x y (.agg (bv l).toArray) (.agg (bv m).toArray)).run Tryz.prog w=.ok (.bool (!decide (l=m))) w:=by
 rw [pQ,pQ]
 have:=Ic (P:=Tryz.prog) (T:=87) Tryz.underlying87 bE OC (fun w=>Tryz.isAgg5 w) (by kernel_rfl) x y (l.map fun b=>(b.toNat:Int)) (m.map fun b=>(b.toNat:Int)) (by simp [hl]) (by simp [hm]) w
 simpa only [F8] using this

theorem rfZ (w:World):(zeroValue 100).run Tryz.prog w=.ok (.agg (aF dX).toArray) w:=Tryz.zeroValue100 w

theorem HU:Tryz.prog.built 100=fun parts=>Instr.fill (fun i=>(#[(0,32),(32,1),(33,1),(34,1)]:Array (Nat×Nat))[i]?) (aF dX).toArray parts:=by kernel_rfl

theorem Sx.St.NS {w0 w:World} {X:List Nat} {M:List Res} (h:St w0 X w M) {i g:Nat} {T:TypeId} {r:bw} (hi:M[i]?=some (.arr g T (aF r))):RdB w (some ⟨g,0,none⟩) 32 32 r.id:=by
 have rng:=h.ku hi
 refine ⟨.inr ⟨g,0,rfl,fun j v hj=>rng j v ?_⟩,by simp [r.idl],Nat.le_refl _,by simp⟩
 rw [aF,List.getElem?_append_left (List.getElem?_eq_some_iff.1 hj).1];exact hj

end Go.Proofs.YtpmhjnhgpplmnaaGreatDoor
end

section
namespace Go.Proofs.YtpmhjnhgpplmnaaGreatDoor
open Go Sx
set_option maxRecDepth 8000

def OkI (x:Int):Prop:= -9223372036854775808≤x∧x≤9223372036854775807
instance (x:Int):Decidable (OkI x):=by unfold OkI;infer_instance
def mkRef (id:List UInt8) (p q n:Int):bw:=if h:id.length=32∧OkI p∧OkI q∧OkI n then ⟨id,p,q,n,h.1,h.2.1,h.2.2.1,h.2.2.2⟩ else dX
theorem Lg {id:List UInt8} {p q n:Int} (h:id.length=32) (hp:OkI p) (hq:OkI q) (hn:OkI n):aF (mkRef id p q n)=bv id++ [.int .i64 p,.int .i64 q,.int .i64 n]:=by
 rw [mkRef,dif_pos ⟨h,hp,hq,hn⟩];rfl
theorem Du {id:List UInt8} {p q n:Int} (h:id.length=32) (hp:OkI p) (hq:OkI q) (hn:OkI n):(mkRef id p q n).id=id∧(mkRef id p q n).pack=p∧(mkRef id p q n).at_=q∧(mkRef id p q n).len=n:=by
 rw [mkRef,dif_pos ⟨h,hp,hq,hn⟩];exact ⟨rfl,rfl,rfl,rfl⟩

abbrev Itm:=List UInt8×List UInt8
def oS:List UInt8:=[97,109,112,104,112,97,99,107]
def n64 (x:Int):Nat:=(x%18446744073709551616).toNat
def iF (num:Int):List UInt8:=oS++fu (n64 num)
@[simp] theorem jN (num:Int):(iF num).length=16:=by simp [iF,oS,sJ]
def dK (x:Itm):List UInt8:=ko 2 (x.1++x.2)
def aQ (num:Int):Nat→List Itm→List bw
 | _,[]=>[]
 | s,x::r=>mkRef x.1 num (((s+(dK x).length:Nat):Int)- ((x.2.length:Nat):Int)) ((x.2.length:Nat):Int)::aQ num (s+(dK x).length) r
def GO (r:bw):List UInt8:=r.id++fu (n64 r.at_)++fu (n64 r.len)
@[simp] theorem Hl (r:bw):(GO r).length=48:=by simp [GO,sJ,r.idl]
def eZ (rs:List bw):List UInt8:=rs.flatMap GO
theorem gP:∀rs:List bw,(eZ rs).length=48*rs.length
 | []=>rfl
 | r::rs=>by
   have:=gP rs
   rw [eZ,List.flatMap_cons,List.length_append,Hl,List.length_cons]
   rw [eZ] at this
   rw [this];omega
def fR (K:List UInt8) (num:Int) (rs:List bw):List UInt8:=ko 3 (dD K 3 (fu (n64 num)) (eZ rs))
def dH (K:List UInt8) (num:Int) (xs:List Itm):List (List UInt8):=iF num::xs.map dK++ [fR K num (aQ num 16 xs)]
def bf (K:List UInt8) (num:Int) (xs:List Itm):List UInt8:=(dH K num xs).flatten
def cQ (num:Int):Bool:=decide (0≤num)&&decide (num≤1099511627776)
theorem dy {num:Int} :cQ num=true↔0≤num∧num≤1099511627776:=by simp [cQ]
def nA:Nat→List Itm→Nat
 | s,[]=>s
 | s,x::r=>nA (s+(dK x).length) r
theorem fo (num:Int):∀(xs:List Itm) (s:Nat),(aQ num s xs).length=xs.length
 | [],_=>rfl
 | x::r,s=>by simp [aQ,fo num r]
theorem su:∀(xs:List Itm) (s:Nat),nA s xs=s+(xs.map dK).flatten.length
 | [],s=>by simp [nA]
 | x::r,s=>by rw [nA,su r];simp;omega
theorem xY (num:Int):∀(xs:List Itm) (s:Nat) (x:Itm),aQ num s (xs++ [x])=aQ num s xs++ [mkRef x.1 num (((nA s xs+(dK x).length:Nat):Int)- ((x.2.length:Nat):Int)) ((x.2.length:Nat):Int)]
 | [],s,x=>rfl
 | y::r,s,x=>by
   show _::aQ num _ (r++ [x])=_
   rw [xY num r];rfl
structure ItD where
 id:List UInt8
 a:Option Addr
 n:Nat
 c:Nat
 iD:List UInt8
 idl:id.length=32
def ItD.t (x:ItD):Itm:=(x.id,x.iD)
def itC (x:ItD):List Value:=bv x.id++ [.slice x.a x.n x.c]
@[simp] theorem wI (x:ItD):(itC x).length=33:=by simp [itC,x.idl]
theorem Lf (x:ItD):∀v∈itC x,v.oneCell'=true:=fun v hv=>by
 simp only [itC,List.mem_append,List.mem_singleton] at hv
 rcases hv with hv | rfl
 · exact aO _ v hv
 · rfl
structure ItR (w:World) (a:Option Addr) (n c:Nat) (l:List ItD):Prop where
 rd:RdE itC 33 w a n c l
 Jv:∀x∈l,RdB w x.a x.n x.c x.iD
theorem ItR.au {w w':World} {a:Option Addr} {n c:Nat} {l:List ItD} (h:ItR w a n c l) (hc:Chg [] w w'):ItR w' a n c l:=⟨h.rd.au hc,fun x hx=>(h.Jv x hx).au hc⟩

structure bY (xs:List Itm):Prop where
 num:xs.length≤4096
 idl:∀x∈xs,x.1.length=32
 sum:(xs.map fun x=>x.2.length).sum≤16777216
theorem tK:∀ {l:List Nat} {x:Nat},x∈l→x≤l.sum
 | y::l,x,h=>by
   rw [List.sum_cons]
   rcases List.mem_cons.1 h with rfl | h
   · omega
   · have:=tK h;omega
theorem bY.iD {xs:List Itm} (h:bY xs) {x:Itm} (hx:x∈xs):x.2.length≤16777216:=
 Nat.le_trans (tK (List.mem_map_of_mem (f:=fun x:Itm=>x.2.length) hx)) h.sum

end Go.Proofs.YtpmhjnhgpplmnaaGreatDoor
end

section
namespace Go.Proofs.YtpmhjnhgpplmnaaGreatDoor
open Go Go.Proofs.YtpmhjnhgpplmnaaGreatDoor.Sx
set_option maxRecDepth 100000
variable (w:World) (R:Ending→World→Prop)
abbrev ux (a:Nat) (b:Array Value) (c:World) (d:Nat) (e:Option Addr) (f g:Nat) (h:Int) (i:Option Addr) (j k:Nat) (l:Ending→World→Prop):Prop:=Stz 39 a 0 (.agg b) c fun b=>0≤(12:Int)∧(12:Int)≤32∧Laz 41 d 0 b fun c=>Clz 199 #[.agg c,.slice (some ⟨a,0,none⟩) 12 32,.slice e f g] b fun b c e g=>Laz 41 d 0 g fun d=>Caz 200 #[.agg d,.int .u8 h,.slice i j k,.slice (some ⟨a,0,none⟩) 12 32,.slice b c e] g fun d g=>Alz 39 g fun g i=>Stz 39 g 0 (.agg d) i fun d=>Mkz 26 (.int .i64 0) (.int .i64 (IntKind.wrap .i64 (45+(f:Int)))) d fun d f i j=>Bsz 26 1 #[(0,.int .u8 h)] j fun h j k m=>Apz 26 (.slice d f i) (.slice h j k) m fun d f h i=>Apz 26 (.slice d f h) (.slice (some ⟨a,0,none⟩) 12 32) i fun a d f h=>Apz 26 (.slice a d f) (.slice b c e) h fun a b c d=>0≤(32:Int)∧(32:Int)≤32∧Apz 26 (.slice a b c) (.slice (some ⟨g,0,none⟩) 32 32) d fun a b c d=>l (.returned (.slice a b c)) d
theorem vV (a:Option Addr) (b c:Nat) (d:Option Addr) (e f:Nat) (g:ByteArray) (h:Alz 39 w fun h i=>Alz 39 i fun i j=>Cvz 9 26 (.string g) j fun g j k l=>C4z 292 #[.slice a b c,.slice d e f,.slice g j k,.int .i64 32] l fun a b c d e=>0≤(32:Int)∧(32:Int)≤32∧∃d f,(Builtin.copy_ #[26,26] 3 #[.slice (some ⟨i,0,none⟩) 32 32,.slice a b c]).run Tryz.prog e=.ok (.int .i64 d) f∧Laz 39 i 0 f fun a=>Stz 39 h 0 (.agg a) f fun a=>∃b,(loadVar 39 ⟨h,0,none⟩).run Tryz.prog a=.ok b a∧R (.returned b) a):Calls Tryz.prog 227 #[.slice a b c,.slice d e f,.string g] w R:=af 0x683c00519c052972475ec07c07c Tryz.func227 (by kernel_rfl) h
theorem qN (a:Array Value) (h:Bxz 39 (.agg a) w fun a b=>Alz 41 b fun b c=>Bsz 26 7 #[(0,.int .u8 97),(1,.int .u8 109),(2,.int .u8 112),(3,.int .u8 104),(4,.int .u8 111),(5,.int .u8 114),(6,.int .u8 97)] c fun c d e f=>Cvz 26 26 (.slice c d e) f fun c d e f=>∃g:World→Prop,g f.drew∧0≤(32:Int)∧(32:Int)≤32∧0≤(32:Int)∧(32:Int)≤32∧0≤(32:Int)∧(32:Int)≤32∧Caz 227 #[.slice c d e,.slice (some ⟨a,0,none⟩) 32 32,.string (ByteArray.mk #[99,105,112,104,101,114])] f.drew fun f h=>∃i:World→Prop,(∀a,i a→g a)∧i h∧Caz 227 #[.slice c d e,.slice (some ⟨a,0,none⟩) 32 32,.string (ByteArray.mk #[109,97,99])] h fun g h=>∃j:World→Prop,(∀a,j a→i a)∧j h∧Caz 227 #[.slice c d e,.slice (some ⟨a,0,none⟩) 32 32,.string (ByteArray.mk #[110,97,109,101])] h fun a c=>∃d:World→Prop,(∀a,d a→j a)∧d c∧∃e,(∀b,d b→(Instr.build 41 #[(0,.agg f),(1,.agg g),(2,.agg a)]).run Tryz.prog b=.ok (.agg e) b)∧Stz 41 b 0 (.agg e) c fun a=>∃c,(loadVar 41 ⟨b,0,none⟩).run Tryz.prog a=.ok c a∧R (.returned c) a):Calls Tryz.prog 143 #[.agg a] w R:=af 0x11a1041a48193818184818548182467106164103161100152017575c077c Tryz.func143 (by kernel_rfl) h
theorem C7 (a:Array Value) (b:Int) (c:Option Addr) (d e:Nat) (f:Option Addr) (g i:Nat) (j:Option Addr) (k l:Nat) (h:Bxz 41 (.agg a) w fun a h=>Alz 39 h fun h m=>0≤(32:Int)∧(32:Int)≤32∧Bsz 26 1 #[(0,.int .u8 b)] m.drew fun b m n o=>Bsz 24 4 #[(0,.slice b m n),(1,.slice c d e),(2,.slice f g i),(3,.slice j k l)] o fun b c d e=>Clz 100 #[.slice b c d] e fun b c d e=>Bsz 24 1 #[(0,.slice b c d)] e fun b c d e=>Caz 198 #[.slice (some ⟨a,32,none⟩) 32 32,.slice b c d] e fun a b=>Stz 39 h 0 (.agg a) b fun a=>∃b,(loadVar 39 ⟨h,0,none⟩).run Tryz.prog a=.ok b a∧R (.returned b) a):Calls Tryz.prog 200 #[.agg a,.int .u8 b,.slice c d e,.slice f g i,.slice j k l] w R:=af 0x1c01041b48181a4721947181847274723465424261100142077c Tryz.func200 (by kernel_rfl) h
theorem BN (a:Array Value) (b:Option Addr) (c d:Nat) (e:Option Addr) (f g:Nat) (h:Bxz 41 (.agg a) w fun a h=>Alz 287 h fun h i=>0≤(12:Int)∧(12:Int)≤12∧∃j k,(Builtin.copy_ #[26,26] 3 #[.slice (some ⟨h,0,none⟩) 12 12,.slice b c d]).run Tryz.prog i=.ok (.int .i64 j) k∧Laz 39 a 0 k fun a=>Laz 287 h 0 k fun b=>C4z 272 #[.agg a,.agg b,.int .i64 0,.slice e f g] k fun a b c d e=>R (.returned (.slice a b c)) e):Calls Tryz.prog 199 #[.agg a,.slice b c d,.slice e f g] w R:=af 0x2d0529724183831c00519c07c017c Tryz.func199 (by kernel_rfl) h
theorem Bq (a:Array Value) (b:Int) (c:Option Addr) (d e:Nat) (f:Option Addr) (g i:Nat) (h:Bxz 41 (.agg a) w fun a h=>0≤(32:Int)∧(32:Int)≤32∧Bsz 26 1 #[(0,.int .u8 b)] h.drew (fun h j k l=>Bsz 24 3 #[(0,.slice h j k),(1,.slice c d e),(2,.slice f g i)] l (fun h j k l=>Clz 100 #[.slice h j k] l (fun h j k l=>Bsz 24 1 #[(0,.slice h j k)] l (fun h j k l=>Caz 198 #[.slice (some ⟨a,64,none⟩) 32 32,.slice h j k] l (fun h j=>Alz 39 j fun j k=>ux j h k a f g i b c d e R)∧Alz 39 l fun l m=>Caz 198 #[.slice (some ⟨a,64,none⟩) 32 32,.slice h j k] m fun h j=>ux l h j a f g i b c d e R)∧Alz 39 l fun l m=>Bsz 24 1 #[(0,.slice h j k)] m fun h j k m=>Caz 198 #[.slice (some ⟨a,64,none⟩) 32 32,.slice h j k] m fun h j=>ux l h j a f g i b c d e R)∧Alz 39 l fun l m=>Clz 100 #[.slice h j k] m fun h j k m=>Bsz 24 1 #[(0,.slice h j k)] m fun h j k m=>Caz 198 #[.slice (some ⟨a,64,none⟩) 32 32,.slice h j k] m fun h j=>ux l h j a f g i b c d e R)∧Alz 39 l fun l m=>Bsz 24 3 #[(0,.slice h j k),(1,.slice c d e),(2,.slice f g i)] m fun h j k m=>Clz 100 #[.slice h j k] m fun h j k m=>Bsz 24 1 #[(0,.slice h j k)] m fun h j k m=>Caz 198 #[.slice (some ⟨a,64,none⟩) 32 32,.slice h j k] m fun h j=>ux l h j a f g i b c d e R)∧Alz 39 h.drew fun h j=>Bsz 26 1 #[(0,.int .u8 b)] j fun j k l m=>Bsz 24 3 #[(0,.slice j k l),(1,.slice c d e),(2,.slice f g i)] m fun j k l m=>Clz 100 #[.slice j k l] m fun j k l m=>Bsz 24 1 #[(0,.slice j k l)] m fun j k l m=>Caz 198 #[.slice (some ⟨a,64,none⟩) 32 32,.slice j k l] m fun j k=>ux h j k a f g i b c d e R):Calls Tryz.prog 101 #[.agg a,.int .u8 b,.slice c d e,.slice f g i] w R:=af 0x17591c0175dc0175dc017575175ec0678144283c01714d83c019c1c01041b481819472184718747264723431a041b48181947218471874726431a041b4818194721847187431a041b48181947218431a041b481819431a041b431a48181967218671876726672365423261100142017c Tryz.func101 (by kernel_rfl) h
theorem BP (a:Array Value) (b:Int) (c:Option Addr) (d e:Nat) (f:Option Addr) (g i:Nat) (h:Bxz 41 (.agg a) w fun a h=>∃j:Bool→World→Prop,Ifz (decide ((g:Int)<45)) (j true h) (∃a c,f=some ⟨a,c,none⟩∧0≤(0:Int)∧0<(g:Int)∧Lkz .u8 5 a (c+Int.toNat (0:Int)*1) h fun a=>j (a != b) h)∧∀h k,j h k→Ifz h (R (.returned (.tuple #[.slice none 0 0,.iface 65 (.int .i64 10)])) k) (0≤(1:Int)∧(1:Int)≤13∧13≤(i:Int)∧∀h,lT 1 f 1 i h→0≤(13:Int)∧(13:Int)≤IntKind.wrap .i64 ((g:Int)-32)∧IntKind.wrap .i64 ((g:Int)-32)≤(i:Int)∧∀j,lT 1 f 13 i j→Laz 41 a 0 k.drew fun l=>Caz 200 #[.agg l,.int .u8 b,.slice c d e,.slice h 12 (i-1),.slice j (Int.toNat (IntKind.wrap .i64 ((g:Int)-32))-13) (i-13)] k.drew fun b c=>Alz 39 c fun c d=>Stz 39 c 0 (.agg b) d fun b=>0≤(32:Int)∧(32:Int)≤32∧0≤IntKind.wrap .i64 ((g:Int)-32)∧IntKind.wrap .i64 ((g:Int)-32)≤(g:Int)∧(g:Int)≤(i:Int)∧∀d,lT 1 f (Int.toNat (IntKind.wrap .i64 ((g:Int)-32))) i d→Cbz 207 #[.slice (some ⟨c,0,none⟩) 32 32,.slice d (g-Int.toNat (IntKind.wrap .i64 ((g:Int)-32))) (i-Int.toNat (IntKind.wrap .i64 ((g:Int)-32)))] b.drew fun b c=>Ifz (!b) (R (.returned (.tuple #[.slice none 0 0,.iface 65 (.int .i64 10)])) c) (Laz 41 a 0 c (fun a=>Clz 199 #[.agg a,.slice h 12 (i-1),.slice j (Int.toNat (IntKind.wrap .i64 ((g:Int)-32))-13) (i-13)] c fun a b c d=>R (.returned (.tuple #[.slice a b c,.nilIface])) d)))):Calls Tryz.prog 111 #[.agg a,.int .u8 b,.slice c d e,.slice f g i] w R:=af 0xd714d83c003d360100514184463121226014220678144283c701065226413222611001424d003d30e138106229c4214112f11a1e1a220d7c Tryz.func111 (by kernel_rfl) h
theorem Ez (a:Array Value) (b:Option Addr) (c d:Nat) (h:Bxz 41 (.agg a) w fun a e=>Alz 87 e fun e f=>0≤(32:Int)∧(32:Int)≤32∧Bsz 26 5 #[(0,.int .u8 99),(1,.int .u8 104),(2,.int .u8 117),(3,.int .u8 110),(4,.int .u8 107)] f.drew fun f g h i=>Cvz 26 26 (.slice f g h) i fun f g h i=>Bsz 24 2 #[(0,.slice f g h),(1,.slice b c d)] i fun b c d f=>Clz 100 #[.slice b c d] f fun b c d f=>Bsz 24 1 #[(0,.slice b c d)] f fun b c d f=>Caz 198 #[.slice (some ⟨a,64,none⟩) 32 32,.slice b c d] f fun a b=>Stz 87 e 0 (.agg a) b fun a=>∃b,(loadVar 87 ⟨e,0,none⟩).run Tryz.prog a=.ok b a∧R (.returned b) a):Calls Tryz.prog 139 #[.agg a,.slice b c d] w R:=af 0x1a010419481818472747186472547234722404161100142077c Tryz.func139 (by kernel_rfl) h
theorem zu (a:ByteArray) (b:Option Addr) (c d:Nat) (h:Alz 41 w fun e f=>Cvz 9 26 (.string a) f fun a f g h=>Caz 227 #[.slice b c d,.slice a f g,.string (ByteArray.mk #[107,101,121])] h fun a b=>Caz 143 #[.agg a] b fun a b=>Stz 41 e 0 (.agg a) b fun a=>∃b,(loadVar 41 ⟨e,0,none⟩).run Tryz.prog a=.ok b a∧R (.returned b) a):Calls Tryz.prog 226 #[.string a,.slice b c d] w R:=af 0x681481475dc07c Tryz.func226 (by kernel_rfl) h
theorem rH (a:ByteArray) (h:R (.returned (.bool (!(a.toList==(ByteArray.mk #[]).toList)&&decide ((a.size:Int)≤1024)))) w):Calls Tryz.prog 225 #[.string a] w R:=af 0x13bec1d Tryz.func225 (by kernel_rfl) h
theorem B1 (a:ByteArray) (b c:Array Value) (h:Bxz 209 (.agg b) w fun b d=>Bxz 39 (.agg c) d fun c d=>Cbz 225 #[.string a] d fun d e=>Ifz (!d) (R (.returned (.tuple #[.slice none 0 0,.iface 65 (.int .i64 28)])) e) (Bsz 26 8 #[(0,.int .u8 97),(1,.int .u8 109),(2,.int .u8 112),(3,.int .u8 104),(4,.int .u8 111),(5,.int .u8 114),(6,.int .u8 97),(7,.int .u8 49)] e (fun d e f g=>Cvz 26 26 (.slice d e f) g fun d e f g=>0≤(16:Int)∧(16:Int)≤16∧Apz 26 (.slice d e f) (.slice (some ⟨b,0,none⟩) 16 16) g fun d e f g=>0≤(16:Int)∧(16:Int)≤16∧0≤(16:Int)∧(16:Int)≤16∧0≤(32:Int)∧(32:Int)≤32∧Caz 226 #[.string a,.slice (some ⟨b,0,none⟩) 16 16] g.drew fun a g=>Clz 101 #[.agg a,.int .u8 1,.slice (some ⟨b,0,none⟩) 16 16,.slice (some ⟨c,0,none⟩) 32 32] g fun a b c g=>Apz 26 (.slice d e f) (.slice a b c) g fun a b c d=>R (.returned (.tuple #[.slice a b c,.nilIface])) d))):Calls Tryz.prog 141 #[.string a,.agg b,.agg c] w R:=af 0x1a01019182272747186481834651641621102242017597575c003d3014141c20d77c Tryz.func141 (by kernel_rfl) h
theorem yG (a:ByteArray) (b:Option Addr) (c d:Nat) (h:Alz 39 w fun e f=>Cbz 225 #[.string a] f fun f g=>Ifz (!f) (Buz 39 #[] g (fun a=>Stz 39 e 0 (.agg a) g fun a=>∃b,(loadVar 39 ⟨e,0,none⟩).run Tryz.prog a=.ok b a∧R (.returned (.tuple #[b,.iface 65 (.int .i64 28)])) a)) (∃f:Bool→World→Prop,Ifz ((c:Int) != 101) (f true g) (0≤(8:Int)∧8≤(d:Int)∧∃a,(convert 26 9 (.slice b 8 d)).run Tryz.prog g=.ok (.string a) g∧f (!(a.toList==(ByteArray.mk #[97,109,112,104,111,114,97,49]).toList)) g)∧∀g h,f g h→Ifz g (Buz 39 #[] h (fun a=>Stz 39 e 0 (.agg a) h fun a=>∃b,(loadVar 39 ⟨e,0,none⟩).run Tryz.prog a=.ok b a∧R (.returned (.tuple #[b,.iface 65 (.int .i64 10)])) a)) (0≤(8:Int)∧(8:Int)≤24∧24≤(d:Int)∧∀f,lT 1 b 8 d f→0≤(24:Int)∧24≤(c:Int)∧(c:Int)≤(d:Int)∧∀g,lT 1 b 24 d g→Caz 226 #[.string a,.slice f 16 (d-8)] h.drew fun a b=>C4z 111 #[.agg a,.int .u8 1,.slice f 16 (d-8),.slice g (c-24) (d-24)] b fun a b c d f=>Nez .neq 58 (.tmp 39) d f fun g=>Ifz g (Buz 39 #[] f (fun a=>Stz 39 e 0 (.agg a) f fun a=>∃b,(loadVar 39 ⟨e,0,none⟩).run Tryz.prog a=.ok b a∧R (.returned (.tuple #[b,d])) a)) (∃d,(Instr.arrayAt 39 (.slice a b c)).run Tryz.prog f=.ok d f∧∃a,(Instr.loadAt 39 d).run Tryz.prog f=.ok (.agg a) f∧Stz 39 e 0 (.agg a) f fun a=>∃b,(loadVar 39 ⟨e,0,none⟩).run Tryz.prog a=.ok b a∧R (.returned (.tuple #[b,.nilIface])) a)))):Calls Tryz.prog 176 #[.string a,.slice b c d] w R:=af 0x1683931c00016183c30431c20529724d814dc601054226310216110014200016183c30d53910522ac4214112f1191f1a2200016183c3014141c2017c Tryz.func176 (by kernel_rfl) h
end Go.Proofs.YtpmhjnhgpplmnaaGreatDoor
end

section
namespace Go.Proofs.YtpmhjnhgpplmnaaGreatDoor
open Go Sx
set_option maxRecDepth 8000

theorem Sx.St.y4 {w0 w:World} {X:List Nat} {M:List Res} (h:St w0 X w M) {T:TypeId} {z:List Value} (hz:∀w,(zeroValue T).run Tryz.prog w=.ok (.agg z.toArray) w):
   ∃g w',(Instr.alloc T true (.tuple #[])).run Tryz.prog w=.ok (.pointer (some ⟨g,0,none⟩)) w'∧St w0 X w' (M++ [.arr g T z])∧Chg [] w w':=by
 obtain ⟨g,w1,r,h1⟩:=h.aD hz
 obtain ⟨g',w1',r',h1'⟩:=(St.start w).aD hz
 have e:=r.symm.trans r'
 simp only [Result.ok.injEq] at e
 obtain ⟨_,rfl⟩:=e
 exact ⟨g,w1,r,h1,h1'.chg⟩

theorem xw {t e by_:Nat} {z:Value} (E:gz Tryz.prog t e 1 by_ z) (vs:List Value) (h1:∀v∈vs,v.oneCell'=true) (hb:vs.length≤16777216) (w:World):
   ∃g w',(Instr.buildSlice t vs.length ((vs.zipIdx 0).map fun p=>(p.2,p.1)).toArray).run Tryz.prog w=.ok (.slice (some ⟨g,0,none⟩) vs.length vs.length) w'∧Chg [] w w'∧Rd w' (some ⟨g,0,none⟩) vs.length vs.length 1 vs∧w.heap.size≤g∧g<w'.heap.size:=by
 obtain ⟨g,w',r,h⟩:=(St.start w).lit E vs h1 hb
 refine ⟨g,w',r,h.chg,h.rd (i:=0) rfl,?_,Res.lt (h.holds 0 _ rfl) g (by simp [Res.fp,Value.ownBlock])⟩
 have h2:=h.own 0 _ rfl g (by simp [Res.fp,Value.ownBlock])
 simpa using h2

theorem LH (k:UInt8) (w:World):∃g w',(Instr.buildSlice 26 1 #[(0,.int .u8 (k.toNat:Int))]).run Tryz.prog w=.ok (.slice (some ⟨g,0,none⟩) 1 1) w'∧Chg [] w w'∧RdB w' (some ⟨g,0,none⟩) 1 1 [k]:=by
 obtain ⟨g,w',r,c,h,_⟩:=xw bT [.int .u8 (k.toNat:Int)] (by simp [Value.oneCell']) (by simp) w
 exact ⟨g,w',r,c,h⟩

theorem kyA (w:World):(isAgg 41).run Tryz.prog w=.ok true w:=Tryz.isAgg41 w
theorem kyS (w:World):(sizeOf 41).run Tryz.prog w=.ok 96 w:=Tryz.sizeOf41 w
theorem kyZ (w:World):(zeroValue 41).run Tryz.prog w=.ok (.agg (bv (List.replicate 96 0)).toArray) w:=Tryz.zeroValue41 w
theorem idS (w:World):(sizeOf 87).run Tryz.prog w=.ok 32 w:=Tryz.sizeOf87 w
theorem idA (w:World):(isAgg 87).run Tryz.prog w=.ok true w:=Tryz.isAgg87 w
theorem idZ (w:World):(zeroValue 87).run Tryz.prog w=.ok (.agg (bv (List.replicate 32 0)).toArray) w:=Tryz.zeroValue87 w
theorem OG (w:World):(isAgg 287).run Tryz.prog w=.ok true w:=Tryz.isAgg287 w
theorem Ox (w:World):(sizeOf 287).run Tryz.prog w=.ok 12 w:=Tryz.sizeOf287 w
theorem OD (w:World):(zeroValue 287).run Tryz.prog w=.ok (.agg (bv (List.replicate 12 0)).toArray) w:=Tryz.zeroValue287 w

theorem FO:Tryz.prog.built 41=fun parts=>Instr.fill (fun i=>(#[(0,32),(32,32),(64,32)]:Array (Nat×Nat))[i]?) (bv (List.replicate 96 0)).toArray parts:=by kernel_rfl

theorem xB {a b c:List UInt8} (ha:a.length=32) (hb:b.length=32) (hc:c.length=32) (w:World):(Instr.build 41 #[(0,.agg (bv a).toArray),(1,.agg (bv b).toArray),(2,.agg (bv c).toArray)]).run Tryz.prog w=.ok (.agg (bv (a++b++c)).toArray) w:=by
 apply run_build
 rw [FO]
 show Instr.fill _ _ [(0,.agg (bv a).toArray),(1,.agg (bv b).toArray),(2,.agg (bv c).toArray)]=_
 have z:∀n,(bv (List.replicate 96 0)).drop n=bv (List.replicate (96-n) 0):=fun n=>by rw [←fB,List.drop_replicate]
 rw [aC (off:=0) (sz:=32) rfl (by simp [Value.cells,ha]) (by simp)]
 simp only [Value.cells,List.take_zero,List.nil_append,Nat.zero_add,z]
 rw [aC (off:=32) (sz:=32) rfl (by simp [Value.cells,hb]) (by simp [ha])]
 simp only [Value.cells]
 rw [List.take_left' (by simp [ha]),show 32+32=(bv a).length+32 by simp [ha],List.drop_append,List.drop_of_length_le (by omega),show (bv a).length+32- (bv a).length=32 by omega,←fB,List.drop_replicate]
 rw [aC (off:=64) (sz:=32) rfl (by simp [Value.cells,hc]) (by simp [ha,hb])]
 simp only [Value.cells,List.nil_append]
 rw [List.take_left' (by simp [ha,hb]),List.drop_of_length_le (by simp [ha,hb])]
 simp [Instr.fill]

theorem sx (a0:Option Addr) (n0 c0:Nat) (salt:List UInt8) (a1:Option Addr) (n1 c1:Nat) (secret:List UInt8) (s:ByteArray) (info:List UInt8) (w:World) (hs:s=⟨info.toArray⟩) (hK:cI w) (hr0:RdB w a0 n0 c0 salt) (hr1:RdB w a1 n1 c1 secret) (hb:n0+n1+info.length≤1099511627776):
   Calls Tryz.prog 227 #[.slice a0 n0 c0,.slice a1 n1 c1,.string s] w fun e w'=>e=.returned (.agg (bv (ji salt secret info)).toArray)∧Chg [] w w':=by
 apply vV
 obtain ⟨g6,w1,r1,h1⟩:=(St.start w).aD eD
 obtain ⟨g7,w2,r2,h2⟩:=h1.aD eD
 obtain ⟨g3,c3,w3,r3,hc3,hr3,_⟩:=wD s info hs w2
 have h3:=h2.same hc3
 refine ⟨_,_,r1,_,_,r2,_,_,_,_,r3,(DK a0 n0 c0 salt a1 n1 c1 secret _ info.length c3 info 32 w3 (hK.au h3.chg) (h3.rd1 hr0) (h3.rd1 hr1) hr3 hb).mono ?_⟩
 rintro e w4 (⟨hx,_⟩ | ⟨_,_,a,n,c,rfl,hf⟩)
 · omega
 have h4:=h3.same hf.1
 have hd:iz salt secret info (Int.toNat 32)=ji salt secret info:=rfl
 rw [hd] at hf
 have hn:n=32:=by rw [←hf.2.1];simp
 subst hn
 obtain ⟨w5,r5,h5⟩:=h4.Gz (i:=1) (d:=32) rfl (by simp) hf.rdB (by omega)
 rw [List.drop_of_length_le (by simp),List.append_nil] at h5
 obtain ⟨w6,r6,h6⟩:=h5.stA (i:=0) (v:=bv (ji salt secret info)) rfl (cL _) (by simp) (by simp) (aO _)
 exact ⟨_,_,_,_,rfl,by omega,by omega,_,w5,r5,_,h5.ldA (i:=1) rfl (jY _) (cL _) (by simp),w6,r6,_,h6.bQ (i:=0) (l:=bv (ji salt secret info)) rfl (jY _) (cL _) (by simp),rfl,h6.chg⟩

theorem pM (l:List UInt8) (hb:l.length≤16777216) (w:World):∃g w1 w2,(Instr.buildSlice 26 l.length (((bv l).zipIdx 0).map fun p=>(p.2,p.1)).toArray).run Tryz.prog w=.ok (.slice (some ⟨g,0,none⟩) l.length l.length) w1∧
   (convert 26 26 (.slice (some ⟨g,0,none⟩) l.length l.length)).run Tryz.prog w1=.ok (.slice (some ⟨g,0,none⟩) l.length l.length) w2∧Chg [] w w2∧RdB w2 (some ⟨g,0,none⟩) l.length l.length l:=by
 obtain ⟨g,w1,r1,c1,h1,hg,hg1⟩:=xw bT (bv l) (aO l) (by simpa using hb) w
 rw [cN] at r1 h1
 obtain ⟨w2,r2,c2,h2⟩:=HA g _ _ l w1 h1 hg1
 exact ⟨g,w1,w2,r1,r2,c1.trans' c2 (fun i hi=>.inl (by simp at hi;omega)),h2⟩

theorem nu (m:List UInt8) (w:World) (hm:m.length=32) (hK:cI w):
   Calls Tryz.prog 143 #[.agg (bv m).toArray] w fun e w'=>e=.returned (.agg (bv (bD m)).toArray)∧Chg [] w w':=by
 apply qN
 obtain ⟨g1,w1,r1,h1⟩:=(St.start w).cz 39 (bv m)
 obtain ⟨g2,w2,r2,h2⟩:=h1.aD kyZ
 obtain ⟨g3,w3,w4,r3,r4,c4,hr4⟩:=pM nW (by decide) w2
 have h4:=(h2.same c4).drew
 have hd:=Chg.drew [] w4
 have dd:∀w' (i:List UInt8) (s:ByteArray),s=⟨i.toArray⟩→i.length≤1000→Chg [] w4.drew w'→Calls Tryz.prog 227 #[.slice (some ⟨g3,0,none⟩) 7 7,.slice (some ⟨g1,0,none⟩) 32 32,.string s] w' fun e w''=>e=.returned (.agg (bv (ji nW m i)).toArray)∧Chg [] w' w'':=fun w' i s hs hi hc=>
   sx _ 7 7 nW _ 32 32 m s i w' hs (hK.au (h4.chg.trans hc)) (hr4.au (hd.trans hc)) ((h4.same hc).rdA (i:=0) rfl (by simp [hm])) (by omega)
 refine ⟨g1,w1,r1,g2,w2,r2,_,_,_,_,r3,_,_,_,_,r4,fun w'=>Chg [] w4.drew w',Chg.refl _ _,by omega,by omega,by omega,by omega,by omega,by omega,(dd _ [99,105,112,104,101,114] _ rfl (by decide) (Chg.refl _ _)).mono ?_⟩
 rintro e w5 ⟨rfl,c5⟩
 refine ⟨_,rfl,fun w'=>Chg [] w4.drew w',fun _ h=>h,c5,(dd _ [109,97,99] _ rfl (by decide) c5).mono ?_⟩
 rintro e w6 ⟨rfl,c6⟩
 have d6:=c5.trans c6
 refine ⟨_,rfl,fun w'=>Chg [] w4.drew w',fun _ h=>h,d6,(dd _ [110,97,109,101] _ rfl (by decide) d6).mono ?_⟩
 rintro e w7 ⟨rfl,c7⟩
 have d7:=d6.trans c7
 obtain ⟨w8,r8,h8⟩:=(h4.same d7).stA (i:=1) (v:=bv (bD m)) rfl (kyS _) (by simp) (by simp) (aO _)
 exact ⟨_,rfl,fun w'=>Chg [] w4.drew w',fun _ h=>h,d7,_,fun w' _=>xB (jS _ _ _) (jS _ _ _) (jS _ _ _) w',w8,r8,_,h8.bQ (i:=1) (l:=bv (bD m)) rfl (kyA _) (kyS _) (by simp),rfl,h8.chg⟩

theorem wX (K:List UInt8) (a1:Option Addr) (c1:Nat) (nonce:List UInt8) (a2:Option Addr) (n2 c2:Nat) (b:List UInt8) (w:World) (hk:K.length=96) (hr1:RdB w a1 12 c1 nonce) (hr2:RdB w a2 n2 c2 b) (hb:n2≤1099511627776):
   Calls Tryz.prog 199 #[.agg (bv K).toArray,.slice a1 12 c1,.slice a2 n2 c2] w fun e w'=>∃a n c,e=.returned (.slice a n c)∧aY w w' a n c (gJ K nonce b):=by
 have hl:=hr1.bB
 apply BN
 obtain ⟨g1,w1,r1,h1⟩:=(St.start w).cz 41 (bv K)
 obtain ⟨g2,w2,r2,h2⟩:=h1.aD OD
 obtain ⟨w3,r3,h3⟩:=h2.Gz (i:=1) (d:=12) rfl (by simp) (h2.rd1 hr1) (by omega)
 rw [List.drop_of_length_le (by simp),List.append_nil] at h3
 have hld:=h3.Kj (i:=0) (l:=bv K) rfl (jY _) (cL _) (by simp [hk])
 rw [←jI] at hld
 refine ⟨g1,w1,r1,g2,w2,r2,by omega,by omega,_,w3,r3,_,hld,_,h3.ldA (i:=1) (l:=bv nonce) rfl (OG _) (Ox _) (by simp [hl]),(Km (K.take 32) nonce 0 a2 n2 c2 b w3 (by simp [hk]) hl (by omega) (by omega) (h3.rd1 hr2) (by omega)).mono ?_⟩
 rintro e w4 ⟨a,n,c,rfl,hf⟩
 exact ⟨_,_,_,_,rfl,_,_,_,rfl,aY.after hf h3.chg⟩

theorem wB {w0 w:World} {M:List Res} (h:St w0 [] w M) {i g T:Nat} {K:List UInt8} (hi:M[i]?=some (.arr g T (bv K))) (hk:K.length=96):RdB w (some ⟨g,32,none⟩) 32 32 (J6 K)∧RdB w (some ⟨g,64,none⟩) 32 32 (lE K):=
 ⟨h.Kn hi (by omega),h.Kn hi (by omega)⟩

theorem DA (K:List UInt8) (k:UInt8) (a2:Option Addr) (n2 c2:Nat) (ctx:List UInt8) (a3:Option Addr) (n3 c3:Nat) (nonce:List UInt8) (a4:Option Addr) (n4 c4:Nat) (body:List UInt8) (w:World) (hk:K.length=96) (hK:cI w) (hr2:RdB w a2 n2 c2 ctx) (hr3:RdB w a3 n3 c3 nonce) (hr4:RdB w a4 n4 c4 body) (hb:n2+n3+n4≤67108000):
   Calls Tryz.prog 200 #[.agg (bv K).toArray,.int .u8 (k.toNat:Int),.slice a2 n2 c2,.slice a3 n3 c3,.slice a4 n4 c4] w fun e w'=>e=.returned (.agg (bv (uO K k ctx nonce body)).toArray)∧Chg [] w w':=by
 have e2:=hr2.bB
 have e3:=hr3.bB
 have e4:=hr4.bB
 apply C7
 obtain ⟨g1,w1,r1,h1⟩:=(St.start w).cz 41 (bv K)
 obtain ⟨g2,w2,r2,h2⟩:=h1.aD eD
 have h2d:=h2.drew
 obtain ⟨g3,w3,r3,c3',q3⟩:=LH k w2.drew
 have h3:=h2d.same c3'
 obtain ⟨g4,w4,r4,c4',q4,_⟩:=xw bbT [.slice (some ⟨g3,0,none⟩) 1 1,.slice a2 n2 c2,.slice a3 n3 c3,.slice a4 n4 c4] (by simp [Value.oneCell']) (by simp) w3
 have h4:=h3.same c4'
 have hrow:cH w4 [.slice (some ⟨g3,0,none⟩) 1 1,.slice a2 n2 c2,.slice a3 n3 c3,.slice a4 n4 c4] [[k],ctx,nonce,body]:=
   (mW (h4.rd1 hr2) (h4.rd1 hr3) (h4.rd1 hr4)).cons (q3.au c4')
 refine ⟨g1,w1,r1,g2,w2,r2,by omega,by omega,_,_,_,_,r3,_,_,_,_,r4,(pF _ 4 4 _ [[k],ctx,nonce,body] w4 q4 hrow (by simp;omega) (by simp)).mono ?_⟩
 rintro e w5 ⟨a5,n5,c5,rfl,hf5⟩
 have h5:=h4.same hf5.1
 obtain ⟨g6,w6,r6,c6',q6,_⟩:=xw bbT [.slice a5 n5 c5] (by simp [Value.oneCell']) (by simp) w5
 have h6:=h5.same c6'
 have hpl:(b9 [[k],ctx,nonce,body]).length≤67109864:=by
   have:=jQ [[k],ctx,nonce,body] (by simp;omega)
   simp at this ⊢
   omega
 refine ⟨_,_,_,rfl,_,_,_,_,r6,(o9 _ 32 32 (J6 K) _ 1 1 _ [b9 [[k],ctx,nonce,body]] w6 (hK.au h6.chg) (wB h6 (i:=0) rfl hk).1 (by omega) q6 (eu (hf5.rdB.au c6')) (by rw [List.flatten_cons,List.flatten_nil,List.append_nil];omega) (by decide)).mono ?_⟩
 rintro e w7 ⟨rfl,c7⟩
 have e1: [b9 [[k],ctx,nonce,body]].flatten=b9 [[k],ctx,nonce,body]:=by rw [List.flatten_cons,List.flatten_nil,List.append_nil]
 rw [e1]
 obtain ⟨w8,r8,h8⟩:=(h6.same c7).stA (i:=1) (v:=bv (uO K k ctx nonce body)) rfl (cL _) (by simp) (by simp) (aO _)
 exact ⟨_,rfl,w8,r8,_,h8.bQ (i:=1) (l:=bv (uO K k ctx nonce body)) rfl (jY _) (cL _) (by simp),rfl,h8.chg⟩

theorem Gk (K:List UInt8) (a:Option Addr) (n c:Nat) (plain:List UInt8) (w:World) (hk:K.length=96) (hK:cI w) (hr:RdB w a n c plain) (hb:n≤67108000):
   Calls Tryz.prog 139 #[.agg (bv K).toArray,.slice a n c] w fun e w'=>e=.returned (.agg (bv (idF K plain)).toArray)∧Chg [] w w':=by
 have e2:=hr.bB
 apply Ez
 obtain ⟨g1,w1,r1,h1⟩:=(St.start w).cz 41 (bv K)
 obtain ⟨g2,w2,r2,h2⟩:=h1.aD idZ
 obtain ⟨g3,w3,w4,r3,r4,c4,q4⟩:=pM [99,104,117,110,107] (by decide) w2.drew
 have h4:=h2.drew.same c4
 obtain ⟨g5,w5,r5,c5',q5,_⟩:=xw bbT [.slice (some ⟨g3,0,none⟩) 5 5,.slice a n c] (by simp [Value.oneCell']) (by simp) w4
 have h5:=h4.same c5'
 refine ⟨g1,w1,r1,g2,w2,r2,by omega,by omega,_,_,_,_,r3,_,_,_,_,r4,_,_,_,_,r5,(pF _ 2 2 _ [[99,104,117,110,107],plain] w5 q5 (oO (q4.au c5') (h5.rd1 hr)) (by simp;omega) (by simp)).mono ?_⟩
 rintro e w6 ⟨a6,n6,c6,rfl,hf6⟩
 have h6:=h5.same hf6.1
 obtain ⟨g7,w7,r7,c7',q7,_⟩:=xw bbT [.slice a6 n6 c6] (by simp [Value.oneCell']) (by simp) w6
 have h7:=h6.same c7'
 have hpl:(b9 [[99,104,117,110,107],plain]).length≤67109864:=by
   have:=jQ [[99,104,117,110,107],plain] (by simp;omega)
   simp at this ⊢
   omega
 refine ⟨_,_,_,rfl,_,_,_,_,r7,(o9 _ 32 32 (lE K) _ 1 1 _ [b9 [[99,104,117,110,107],plain]] w7 (hK.au h7.chg) (wB h7 (i:=0) rfl hk).2 (by omega) q7 (eu (hf6.rdB.au c7')) (by rw [List.flatten_cons,List.flatten_nil,List.append_nil];omega) (by decide)).mono ?_⟩
 rintro e w8 ⟨rfl,c8⟩
 have e1: [b9 [[99,104,117,110,107],plain]].flatten=b9 [[99,104,117,110,107],plain]:=by rw [List.flatten_cons,List.flatten_nil,List.append_nil]
 rw [e1]
 obtain ⟨w9,r9,h9⟩:=(h7.same c8).stA (i:=1) (v:=bv (idF K plain)) rfl (idS _) (by simp) (by simp [idF]) (aO _)
 exact ⟨_,rfl,w9,r9,_,h9.bQ (i:=1) (l:=bv (idF K plain)) rfl (idA _) (idS _) (by simp [idF]),rfl,h9.chg⟩

end Go.Proofs.YtpmhjnhgpplmnaaGreatDoor
end

section
namespace Go.Proofs.YtpmhjnhgpplmnaaGreatDoor
open Go Sx
set_option maxRecDepth 8000

def Dc (a1:Int) (a2a:Option Addr) (a2n a2c:Nat) (a3a:Option Addr) (a3n a3c:Nat) (g4 g9:Nat) (t23:Array Value) (R:Ending→World→Prop) (w7:World):Prop:=
 (∃w8:World,(Instr.storeAt 39 (.pointer (some ⟨g9,0,none⟩)) (.agg t23)).run Tryz.prog w7=.ok () w8∧
   (0≤(12:Int)∧(12:Int)≤((32:Nat):Int)∧
   (∃(t25:Array Value),(Instr.loadAt 41 (.pointer (some ⟨g4,0,none⟩))).run Tryz.prog w8=.ok (.agg t25) w8∧
   (Calls Tryz.prog 199 #[(.agg t25),(.slice (some ⟨g9,0,none⟩) 12 32),(.slice a3a a3n a3c)] w8 fun (e28:Ending) (w9:World)=>∃(t28a:Option Addr) (t28n:Nat) (t28c:Nat),e28=.returned (.slice t28a t28n t28c)∧
   (∃(t29:Array Value),(Instr.loadAt 41 (.pointer (some ⟨g4,0,none⟩))).run Tryz.prog w9=.ok (.agg t29) w9∧
   (Calls Tryz.prog 200 #[(.agg t29),(.int .u8 a1),(.slice a2a a2n a2c),(.slice (some ⟨g9,0,none⟩) 12 32),(.slice t28a t28n t28c)] w9 fun (e34:Ending) (w10:World)=>∃(t34:Array Value),e34=.returned (.agg t34)∧
   (∃(g12:Nat) (w11:World),(Instr.alloc 39 true (.tuple #[])).run Tryz.prog w10=.ok (.pointer (some ⟨g12,0,none⟩)) w11∧
   (∃w12:World,(Instr.storeAt 39 (.pointer (some ⟨g12,0,none⟩)) (.agg t34)).run Tryz.prog w11=.ok () w12∧
   (∃(t38a:Option Addr) (t38n:Nat) (t38c:Nat) (w13:World),(Instr.makeSlice 26 (.int .i64 0) (.int .i64 (IntKind.wrap .i64 ((45:Int)+((a3n:Nat):Int))))).run Tryz.prog w12=.ok (.slice t38a t38n t38c) w13∧
   (∃(t40a:Option Addr) (t40n:Nat) (t40c:Nat) (w14:World),(Instr.buildSlice 26 1 #[(0,(.int .u8 a1))]).run Tryz.prog w13=.ok (.slice t40a t40n t40c) w14∧
   (∃(t41a:Option Addr) (t41n:Nat) (t41c:Nat) (w15:World),(Builtin.append_ #[26,26] 26 #[(.slice t38a t38n t38c),(.slice t40a t40n t40c)]).run Tryz.prog w14=.ok (.slice t41a t41n t41c) w15∧
   (∃(t44a:Option Addr) (t44n:Nat) (t44c:Nat) (w16:World),(Builtin.append_ #[26,26] 26 #[(.slice t41a t41n t41c),(.slice (some ⟨g9,0,none⟩) 12 32)]).run Tryz.prog w15=.ok (.slice t44a t44n t44c) w16∧
   (∃(t47a:Option Addr) (t47n:Nat) (t47c:Nat) (w17:World),(Builtin.append_ #[26,26] 26 #[(.slice t44a t44n t44c),(.slice t28a t28n t28c)]).run Tryz.prog w16=.ok (.slice t47a t47n t47c) w17∧
   (0≤((32:Nat):Int)∧((32:Nat):Int)≤((32:Nat):Int)∧
   (∃(t50a:Option Addr) (t50n:Nat) (t50c:Nat) (w18:World),(Builtin.append_ #[26,26] 26 #[(.slice t47a t47n t47c),(.slice (some ⟨g12,0,none⟩) (32) 32)]).run Tryz.prog w17=.ok (.slice t50a t50n t50c) w18∧
   (R (.returned (.slice t50a t50n t50c)) w18))))))))))))))))

theorem HR (K nonce b:List UInt8):(gJ K nonce b).length≤b.length:=by
 rw [gJ,Hi];split<;>simp

theorem Dp (K:List UInt8) (k:UInt8) (a2:Option Addr) (n2 c2:Nat) (ctx:List UInt8) (a3:Option Addr) (n3 c3:Nat) (plain d:List UInt8) (g4 g9:Nat) (w w7:World) (z:List UInt8) (R:Ending→World→Prop)
   (hk:K.length=96) (hK:cI w) (hr2:RdB w a2 n2 c2 ctx) (hr3:RdB w a3 n3 c3 plain) (hb:n2+n3≤67100000) (hd:d.length=32) (hz:z.length=32) (h7:St w [] w7 [.arr g4 41 (bv K),.arr g9 39 (bv z)])
   (hR:∀a n c w',aY w w' a n c ([k]++d.take 12++gJ K (d.take 12) plain++uO K k ctx (d.take 12) (gJ K (d.take 12) plain))→R (.returned (.slice a n c)) w'):
   Dc (k.toNat:Int) a2 n2 c2 a3 n3 c3 g4 g9 (bv d).toArray R w7:=by
 have e2:=hr2.bB
 have e3:=hr3.bB
 have hv:=HR K (d.take 12) plain
 obtain ⟨body,hbody⟩:∃b,gJ K (d.take 12) plain=b:=⟨_,rfl⟩
 rw [hbody] at hR hv
 obtain ⟨w8,r8,h8⟩:=h7.stA (i:=1) (v:=bv d) rfl (cL _) (by simp [hz]) (by simp [hd]) (aO _)
 have hn:∀w',Chg [] w8 w'→RdB w' (some ⟨g9,0,none⟩) 12 32 (d.take 12):=fun w' hc=>jc (l:=d) ((h8.same hc).rdA (i:=1) rfl (by simp [hd])) (by omega)
 have hl4:∀w',Chg [] w8 w'→(Instr.loadAt 41 (.pointer (some ⟨g4,0,none⟩))).run Tryz.prog w'=.ok (.agg (bv K).toArray) w':=fun w' hc=>(h8.same hc).ldA (i:=0) (l:=bv K) rfl (kyA _) (kyS _) (by simp [hk])
 have hzr:=Chg.refl [] w8
 refine ⟨w8,r8,by omega,by omega,_,hl4 _ hzr,(wX K _ 32 (d.take 12) a3 n3 c3 plain w8 hk (hn _ hzr) (h8.rd1 hr3) (by omega)).mono ?_⟩
 rintro e w9 ⟨a9,n9,c9,rfl,hf9⟩
 rw [hbody] at hf9
 have e9:=hf9.2.1
 refine ⟨_,_,_,rfl,_,hl4 _ hf9.1,(DA K k a2 n2 c2 ctx _ 12 32 (d.take 12) a9 n9 c9 body w9 hk (hK.au (h8.chg.trans hf9.1)) ((h8.same hf9.1).rd1 hr2) (hn _ hf9.1) hf9.rdB (by omega)).mono ?_⟩
 rintro e w10 ⟨rfl,hc10⟩
 obtain ⟨tg,htg⟩:∃t,uO K k ctx (d.take 12) body=t:=⟨_,rfl⟩
 have htl:tg.length=32:=by rw [←htg];simp
 rw [htg] at hR ⊢
 have h10:St w [] w10 [.arr g4 41 (bv K),.arr g9 39 (bv d),.row 5 1 (.slice a9 n9 c9) n9 (bv body)]:=(hf9.add h8).same hc10
 obtain ⟨g11,w11,r11,h11⟩:=h10.aD eD
 obtain ⟨w12,r12,h12⟩:=h11.stA (i:=3) (v:=bv tg) rfl (cL _) (by simp) (by simp [htl]) (aO _)
 have hw:IntKind.wrap .i64 ((45:Int)+(n3:Int))=((45+n3:Nat):Int):=by rw [wrap_i64 (by omega) (by omega)];omega
 obtain ⟨g13,w13,r13,h13⟩:=h12.Lh (kl:=.i64) (kc:=.i64) (c:=45+n3) bT (by omega) (by omega)
 obtain ⟨g14,w14,r14,c14,q14⟩:=LH k w13
 have h14:St w [] w14 [.arr g4 41 (bv K),.arr g9 39 (bv d),.row 5 1 (.slice a9 n9 c9) n9 (bv body),.arr g11 39 (bv tg),.row 5 1 (.slice (some ⟨g13,0,none⟩) 0 (45+n3)) 0 (bv [])]:=h13.same c14
 obtain ⟨va,vc,w15,r15,h15⟩:=h14.bJ (i:=4) (xs:=[]) rfl q14 (by omega)
 have h15':St w [] w15 [.arr g4 41 (bv K),.arr g9 39 (bv d),.row 5 1 (.slice a9 n9 c9) n9 (bv body),.arr g11 39 (bv tg),.row 5 1 (.slice va 1 vc) 1 (bv [k])]:=h15
 obtain ⟨vb,vd,w16,r16,h16⟩:=h15'.bJ (i:=4) rfl (jc (l:=d) (n:=32) (c:=32) (k:=12) (h15'.rdA (i:=1) (n:=32) rfl (by simp [hd])) (by omega)) (by omega)
 have h16':St w [] w16 [.arr g4 41 (bv K),.arr g9 39 (bv d),.row 5 1 (.slice a9 n9 c9) n9 (bv body),.arr g11 39 (bv tg),.row 5 1 (.slice vb (1+12) vd) (1+12) (bv ([k]++d.take 12))]:=h16
 obtain ⟨ve,vf,w17,r17,h17⟩:=h16'.bJ (i:=4) rfl (h16'.rd (i:=2) (xs:=bv body) rfl) (by omega)
 have h17':St w [] w17 [.arr g4 41 (bv K),.arr g9 39 (bv d),.row 5 1 (.slice a9 n9 c9) n9 (bv body),.arr g11 39 (bv tg),.row 5 1 (.slice ve (1+12+n9) vf) (1+12+n9) (bv ([k]++d.take 12++body))]:=h17
 obtain ⟨vg,vh,w18,r18,h18⟩:=h17'.bJ (i:=4) (m:=32) (l:=tg) rfl (h17'.rdA (i:=3) rfl (by simp [htl])) (by omega)
 rw [hw]
 exact ⟨_,rfl,g11,w11,r11,w12,r12,_,_,_,w13,r13,_,_,_,w14,r14,_,_,_,w15,r15,_,_,_,w16,r16,_,_,_,w17,r17,by omega,by omega,_,_,_,w18,r18,hR _ _ _ _ (h18.jm (i:=4) rfl)⟩

theorem pI (K:List UInt8) (k:UInt8) (a2:Option Addr) (n2 c2:Nat) (ctx:List UInt8) (a3:Option Addr) (n3 c3:Nat) (plain:List UInt8) (w:World)
   (hk:K.length=96) (hK:cI w) (hr2:RdB w a2 n2 c2 ctx) (hr3:RdB w a3 n3 c3 plain) (hb:n2+n3≤67100000):
   Calls Tryz.prog 101 #[.agg (bv K).toArray,.int .u8 (k.toNat:Int),.slice a2 n2 c2,.slice a3 n3 c3] w fun e w'=>∃a n c,e=.returned (.slice a n c)∧aY w w' a n c (dD K k ctx plain):=by
 have e2:=hr2.bB
 have e3:=hr3.bB
 apply Bq
 obtain ⟨g1,w1,r1,h1⟩:=(St.start w).cz 41 (bv K)
 have hd:=Chg.drew [] w1
 have P20:∀w' g,Chg [] w1 w'→RdB w' (some ⟨g,0,none⟩) 1 1 [k]→∃g2 w'',(Instr.buildSlice 24 3 #[(0,.slice (some ⟨g,0,none⟩) 1 1),(1,.slice a2 n2 c2),(2,.slice a3 n3 c3)]).run Tryz.prog w'=.ok (.slice (some ⟨g2,0,none⟩) 3 3) w''∧Chg [] w' w''∧
     Rd w'' (some ⟨g2,0,none⟩) 3 3 1 [.slice (some ⟨g,0,none⟩) 1 1,.slice a2 n2 c2,.slice a3 n3 c3]∧cH w'' [.slice (some ⟨g,0,none⟩) 1 1,.slice a2 n2 c2,.slice a3 n3 c3] [[k],ctx,plain]:=fun w' g hc hr=>by
   obtain ⟨g2,w2,r2,c2',q2,_⟩:=xw bbT [.slice (some ⟨g,0,none⟩) 1 1,.slice a2 n2 c2,.slice a3 n3 c3] (by simp [Value.oneCell']) (by simp) w'
   have hcc:=h1.chg.trans (hc.trans c2')
   exact ⟨g2,w2,r2,c2',q2,mW (hr.au c2') (hr2.au hcc) (hr3.au hcc)⟩
 obtain ⟨P,hP⟩:∃P,b9 [[k],ctx,plain]=P:=⟨_,rfl⟩
 have hpl:P.length≤67109864:=by
   have:=jQ [[k],ctx,plain] (by simp;omega)
   rw [hP] at this
   simp at this
   omega
 have Ppk:∀w' g2 vs,Rd w' (some ⟨g2,0,none⟩) 3 3 1 vs→cH w' vs [[k],ctx,plain]→Calls Tryz.prog 100 #[.slice (some ⟨g2,0,none⟩) 3 3] w' fun e w''=>∃a n c,e=.returned (.slice a n c)∧aY w' w'' a n c P:=fun w' g2 vs q qr=>by
   have:=pF _ 3 3 vs [[k],ctx,plain] w' q qr (by simp;omega) (by simp)
   rw [hP] at this;exact this
 have P22:∀w' a n c,RdB w' a n c P→∃g2 w'',(Instr.buildSlice 24 1 #[(0,.slice a n c)]).run Tryz.prog w'=.ok (.slice (some ⟨g2,0,none⟩) 1 1) w''∧Chg [] w' w''∧Rd w'' (some ⟨g2,0,none⟩) 1 1 1 [.slice a n c]∧cH w'' [.slice a n c] [P]:=fun w' a n c hr=>by
   obtain ⟨g2,w2,r2,c2',q2,_⟩:=xw bbT [.slice a n c] (by simp [Value.oneCell']) (by simp) w'
   exact ⟨g2,w2,r2,c2',q2,eu (hr.au c2')⟩
 have Pm:∀w' g2 vs,Chg [] w1 w'→Rd w' (some ⟨g2,0,none⟩) 1 1 1 vs→cH w' vs [P]→Calls Tryz.prog 198 #[.slice (some ⟨g1,64,none⟩) 32 32,.slice (some ⟨g2,0,none⟩) 1 1] w' fun e w''=>e=.returned (.agg (bv (dx (lE K) P)).toArray)∧Chg [] w' w'':=fun w' g2 vs hc q qr=>by
   have e1: [P].flatten=P:=by rw [List.flatten_cons,List.flatten_nil,List.append_nil]
   have:=o9 _ 32 32 (lE K) _ 1 1 vs [P] w' (hK.au (h1.chg.trans hc)) (wB (h1.same hc) (i:=0) rfl hk).2 (by omega) q qr (by rw [e1];omega) (by decide)
   rw [e1] at this;exact this
 have hR:∀a n c w',aY w w' a n c ([k]++(dx (lE K) P).take 12++gJ K ((dx (lE K) P).take 12) plain++uO K k ctx ((dx (lE K) P).take 12) (gJ K ((dx (lE K) P).take 12) plain))→∃a' n' c',Ending.returned (.slice a n c)=.returned (.slice a' n' c')∧aY w w' a' n' c' (dD K k ctx plain):=fun a n c w' hf=>⟨a,n,c,rfl,by rw [dD,gW,hP];exact hf⟩
 have tail:∀g9 w7,St w [] w7 [.arr g1 41 (bv K),.arr g9 39 (bv (List.replicate 32 0))]→Dc (k.toNat:Int) a2 n2 c2 a3 n3 c3 g1 g9 (bv (dx (lE K) P)).toArray (fun e w'=>∃a n c,e=.returned (.slice a n c)∧aY w w' a n c (dD K k ctx plain)) w7:=fun g9 w7 h7=>
   Dp K k a2 n2 c2 ctx a3 n3 c3 plain _ g1 g9 w w7 _ _ hk hK hr2 hr3 hb (oV _ _) (by simp) h7 hR
 obtain ⟨g3,w3,r3,c3',q3⟩:=LH k w1.drew
 have d3:=hd.trans c3'
 obtain ⟨g4,w4,r4,c4',q4,qr4⟩:=P20 w3 g3 d3 q3
 have d4:=d3.trans c4'
 refine ⟨g1,w1,r1,by omega,by omega,⟨_,_,_,_,r3,⟨_,_,_,_,r4,(Ppk w4 g4 _ q4 qr4).mono ?_,?_⟩,?_⟩,?_⟩
 · rintro e w5 ⟨a5,n5,c5,rfl,hf5⟩
   have d5:=d4.trans hf5.1
   refine ⟨_,_,_,rfl,?_,?_⟩
   · obtain ⟨g6,w6,r6,c6',q6,qr6⟩:=P22 w5 _ _ _ hf5.rdB
     have d6:=d5.trans c6'
     refine ⟨_,_,_,_,r6,(Pm w6 g6 _ d6 q6 qr6).mono ?_,?_⟩
     · rintro e w7 ⟨rfl,c7⟩
       obtain ⟨g9,w9,r9,h9⟩:=(h1.same (d6.trans c7)).aD eD
       exact ⟨_,rfl,g9,w9,r9,tail g9 w9 h9⟩
     · obtain ⟨g9,w9,r9,h9,c9⟩:=(h1.same d6).y4 eD
       refine ⟨g9,w9,r9,(Pm w9 g6 _ (d6.trans c9) (q6.au c9) (qr6.au c9)).mono ?_⟩
       rintro e w10 ⟨rfl,c10⟩
       exact ⟨_,rfl,tail g9 w10 (h9.same c10)⟩
   · obtain ⟨g9,w9,r9,h9,c9⟩:=(h1.same d5).y4 eD
     obtain ⟨g6,w6,r6,c6',q6,qr6⟩:=P22 w9 _ _ _ (hf5.rdB.au c9)
     refine ⟨g9,w9,r9,_,_,_,_,r6,(Pm w6 g6 _ ((d5.trans c9).trans c6') q6 qr6).mono ?_⟩
     rintro e w10 ⟨rfl,c10⟩
     exact ⟨_,rfl,tail g9 w10 (h9.same (c6'.trans c10))⟩
 · obtain ⟨g9,w9,r9,h9,c9⟩:=(h1.same d4).y4 eD
   refine ⟨g9,w9,r9,(Ppk w9 g4 _ (q4.au c9) (qr4.au c9)).mono ?_⟩
   rintro e w5 ⟨a5,n5,c5,rfl,hf5⟩
   have d5:=(d4.trans c9).trans hf5.1
   obtain ⟨g6,w6,r6,c6',q6,qr6⟩:=P22 w5 _ _ _ hf5.rdB
   refine ⟨_,_,_,rfl,_,_,_,_,r6,(Pm w6 g6 _ (d5.trans c6') q6 qr6).mono ?_⟩
   rintro e w10 ⟨rfl,c10⟩
   exact ⟨_,rfl,tail g9 w10 (h9.same (hf5.1.trans (c6'.trans c10)))⟩
 · obtain ⟨g9,w9,r9,h9,c9⟩:=(h1.same d3).y4 eD
   obtain ⟨g4,w4,r4,c4',q4,qr4⟩:=P20 w9 g3 (d3.trans c9) (q3.au c9)
   refine ⟨g9,w9,r9,_,_,_,_,r4,(Ppk w4 g4 _ q4 qr4).mono ?_⟩
   rintro e w5 ⟨a5,n5,c5,rfl,hf5⟩
   have d5:=((d3.trans c9).trans c4').trans hf5.1
   obtain ⟨g6,w6,r6,c6',q6,qr6⟩:=P22 w5 _ _ _ hf5.rdB
   refine ⟨_,_,_,rfl,_,_,_,_,r6,(Pm w6 g6 _ (d5.trans c6') q6 qr6).mono ?_⟩
   rintro e w10 ⟨rfl,c10⟩
   exact ⟨_,rfl,tail g9 w10 (h9.same ((c4'.trans hf5.1).trans (c6'.trans c10)))⟩
 · obtain ⟨g9,w9,r9,h9,c9⟩:=(h1.same hd).y4 eD
   obtain ⟨g3,w3,r3,c3',q3⟩:=LH k w9
   have d3:=(hd.trans c9).trans c3'
   obtain ⟨g4,w4,r4,c4',q4,qr4⟩:=P20 w3 g3 d3 q3
   refine ⟨g9,w9,r9,_,_,_,_,r3,_,_,_,_,r4,(Ppk w4 g4 _ q4 qr4).mono ?_⟩
   rintro e w5 ⟨a5,n5,c5,rfl,hf5⟩
   have d5:=(d3.trans c4').trans hf5.1
   obtain ⟨g6,w6,r6,c6',q6,qr6⟩:=P22 w5 _ _ _ hf5.rdB
   refine ⟨_,_,_,rfl,_,_,_,_,r6,(Pm w6 g6 _ (d5.trans c6') q6 qr6).mono ?_⟩
   rintro e w10 ⟨rfl,c10⟩
   exact ⟨_,rfl,tail g9 w10 (h9.same ((c3'.trans (c4'.trans hf5.1)).trans (c6'.trans c10)))⟩

def pe (K:List UInt8) (kind:UInt8) (ctx b:List UInt8):Option Int:=if (gN K kind ctx b).isSome then none else some 10

theorem z6 (K:List UInt8) (k:UInt8) (a2:Option Addr) (n2 c2:Nat) (ctx:List UInt8) (a3:Option Addr) (n3 c3:Nat) (b:List UInt8) (w:World)
   (hk:K.length=96) (hK:cI w) (hr2:RdB w a2 n2 c2 ctx) (hr3:RdB w a3 n3 c3 b) (hb:n2+n3≤67100000):
   Calls Tryz.prog 111 #[.agg (bv K).toArray,.int .u8 (k.toNat:Int),.slice a2 n2 c2,.slice a3 n3 c3] w fun e w'=>∃a n c,e=.returned (.tuple #[.slice a n c,bG (pe K k ctx b)])∧aY w w' a n c ((gN K k ctx b).getD []):=by
 have e2:=hr2.bB
 have e3:=hr3.bB
 have hle:=hr3.le
 apply BP
 obtain ⟨g1,w1,r1,h1⟩:=(St.start w).cz 41 (bv K)
 have bad:∀w',Chg [] w w'→gN K k ctx b=none→∃a n c,Ending.returned (.tuple #[.slice none 0 0,.iface 65 (.int .i64 10)])=.returned (.tuple #[.slice a n c,bG (pe K k ctx b)])∧aY w w' a n c ((gN K k ctx b).getD []):=fun w' hc hn=>by
   refine ⟨none,0,0,?_,?_⟩
   · rw [pe,hn];rfl
   · rw [hn];exact ⟨hc,rfl,World.ownsRow_nil _ _ _ _⟩
 refine ⟨g1,w1,r1,fun x w'=>x=decide (b.length<45∨b.getD 0 0≠k)∧w'=w1,⟨fun h=>?_,fun h=>?_⟩,?_⟩
 · have:b.length<45:=by simp at h;omega
   exact ⟨by simp [this],rfl⟩
 · have h45:¬b.length<45:=by simp at h;omega
   refine ixB (bA _) (h1.rd1 hr3).cells e3 (by omega) (by omega) fun bl o hbo=>⟨?_,rfl⟩
   have:(0:Int).toNat=0:=rfl
   rw [this]
   by_cases hx:b.getD 0 0=k
   · rw [hx];simp [h45]
   · have hx2:((b.getD 0 0).toNat:Int)≠(k.toNat:Int):=fun e=>hx (by apply UInt8.toNat_inj.1;omega)
     rw [bne_iff_ne.2 hx2]
     exact (decide_eq_true (.inr hx)).symm
 rintro x w2 ⟨rfl,rfl⟩
 refine ⟨fun h=>bad _ h1.chg ?_,fun h=>?_⟩
 · have h':b.length<45∨b.getD 0 0≠k:=by simpa using h
   rw [gN,if_pos h']
 have h':¬(b.length<45∨b.getD 0 0≠k):=by simpa using h
 have hof:gN K k ctx b=if uO K k ctx (jx b) (bBody b)=zI b then some (gJ K (jx b) (bBody b)) else none:=by rw [gN,if_neg h']
 have h45:45≤b.length:=by
   rcases Nat.lt_or_ge b.length 45 with h | h
   · exact absurd (.inl h) h'
   · exact h
 clear h h'
 have hw:IntKind.wrap .i64 ((n3:Int)-32)=((n3-32:Nat):Int):=by rw [wrap_i64 (by omega) (by omega)];omega
 rw [hw]
 have hdw:=Chg.drew [] w2
 have h1d:=h1.same hdw
 refine ⟨by omega,by omega,by omega,fun t29 hs29=>⟨by omega,by omega,by omega,fun t32 hs32=>?_⟩⟩
 have q3:=h1d.rd1 hr3
 have qn:RdB w2.drew t29 12 (c3-1) (jx b):=by
   have:=q3.sub hs29 (hh:=13) (by omega) (by omega) (by omega) (Nat.le_refl _)
   have e1:((bv b).drop (1*1)).take ((13-1)*1)=bv (jx b):=by rw [jx,jI,fB]
   rw [e1] at this
   exact this
 have qb:RdB w2.drew t32 (n3-32-13) (c3-13) (bBody b):=by
   have:=q3.sub hs32 (hh:=n3-32) (by omega) (by omega) (by omega) (Nat.le_refl _)
   have e1:((bv b).drop (13*1)).take ((n3-32-13)*1)=bv (bBody b):=by rw [bBody,jI,fB,e3];congr 1;omega
   rw [e1] at this
   exact this
 have hl4:∀w',Chg [] w2.drew w'→(Instr.loadAt 41 (.pointer (some ⟨g1,0,none⟩))).run Tryz.prog w'=.ok (.agg (bv K).toArray) w':=fun w' hc=>(h1d.same hc).ldA (i:=0) (l:=bv K) rfl (kyA _) (kyS _) (by simp [hk])
 rw [Int.toNat_natCast]
 refine ⟨_,hl4 _ (Chg.refl _ _),(DA K k a2 n2 c2 ctx t29 12 (c3-1) (jx b) t32 (n3-32-13) (c3-13) (bBody b) _ hk (hK.au h1d.chg) (h1d.rd1 hr2) qn qb (by omega)).mono ?_⟩
 rintro e w3 ⟨rfl,c3'⟩
 obtain ⟨tg,htg⟩:∃t,uO K k ctx (jx b) (bBody b)=t:=⟨_,rfl⟩
 have htl:tg.length=32:=by rw [←htg];simp
 rw [htg] at hof ⊢
 obtain ⟨g4,w4,r4,h4⟩:=(St.start w2.drew |>.same c3').aD eD
 obtain ⟨w5,r5,h5⟩:=h4.stA (i:=0) (v:=bv tg) rfl (cL _) (by simp) (by simp [htl]) (aO _)
 have h5d:=h5.drew
 refine ⟨_,rfl,g4,w4,r4,w5,r5,by omega,by omega,by omega,by omega,by omega,fun t42 hs42=>?_⟩
 have qt:RdB w5.drew t42 (n3- (n3-32)) (c3- (n3-32)) (zI b):=by
   have:=(q3.au h5d.chg).sub hs42 (hh:=n3) (by omega) (Nat.le_refl _) (by omega) (Nat.le_refl _)
   have e1:((bv b).drop ((n3-32)*1)).take ((n3- (n3-32))*1)=bv (zI b):=by
     rw [zI,fB,e3,List.take_of_length_le (by simp;omega)];congr 1;omega
   rw [e1] at this
   exact this
 refine (Ev _ 32 32 tg t42 _ _ (zI b) _ (h5d.rdA (i:=0) rfl (by simp [htl])) qt (by omega)).mono ?_
 rintro e w6 ⟨rfl,c6⟩
 have d6:=h5d.chg.trans c6
 refine ⟨_,rfl,fun h=>bad _ (h1d.chg.trans d6) ?_,fun h=>?_⟩
 · have:¬tg=zI b:=by simpa using h
   rw [hof,if_neg this]
 · have ht:tg=zI b:=by simpa using h
   rw [if_pos ht] at hof
   refine ⟨_,hl4 _ d6,(wX K t29 (c3-1) (jx b) t32 (n3-32-13) (c3-13) (bBody b) w6 hk (qn.au d6) (qb.au d6) (by omega)).mono ?_⟩
   rintro e w7 ⟨a7,n7,c7,rfl,hf7⟩
   refine ⟨_,_,_,rfl,a7,n7,c7,?_,?_⟩
   · rw [pe,hof];rfl
   · rw [hof]
     exact aY.after hf7 (h1d.chg.trans d6)

end Go.Proofs.YtpmhjnhgpplmnaaGreatDoor
end

section
namespace Go.Proofs.YtpmhjnhgpplmnaaGreatDoor
open Go Sx
set_option maxRecDepth 8000
set_option maxRecDepth 100000

theorem Ix (salt secret info:List UInt8):ji salt secret info=dx (dx salt secret) (info++ [1]):=by
 have:ji salt secret info=(qi (dx salt secret) info 1).take 32:=rfl
 rw [this,List.take_of_length_le (by rw [Ek];decide)]
 simp only [qi,tF,List.nil_append]
 rfl

theorem Kv (key nonce:List UInt8) (p:Nat) (l:List UInt8):v7 key nonce p (v7 key nonce p l)=l:=by
 apply List.ext_getElem?
 intro i
 simp only [v7,List.getElem?_mapIdx]
 cases l[i]? with
 | none=>rfl
 | some b=>simp [UInt8.xor_assoc]

theorem pq (K nonce plain:List UInt8) (h:plain.length≤274877906944):gJ K nonce (gJ K nonce plain)=plain∧(gJ K nonce plain).length=plain.length:=by
 have h1:∀l:List UInt8,l.length≤274877906944→gJ K nonce l=v7 (LS K) nonce 0 l:=fun l hl=>by
   have:oh 0 l.length=true:=by simp [oh];omega
   rw [gJ,Hi,if_pos this];rfl
 rw [h1 plain h,h1 _ (by rw [B5];exact h),Kv,B5]
 exact ⟨rfl,rfl⟩

theorem fQ (K:List UInt8) (k:UInt8) (ctx plain:List UInt8) (h:plain.length≤274877906944):(dD K k ctx plain).length=plain.length+45:=by
 simp [dD,(pq K (gW K k ctx plain) plain h).2];omega

theorem D9 (K:List UInt8) (k:UInt8) (ctx plain:List UInt8) (h:plain.length≤274877906944):(dD K k ctx plain).getD 0 0=k∧jx (dD K k ctx plain)=gW K k ctx plain∧bBody (dD K k ctx plain)=gJ K (gW K k ctx plain) plain∧
   zI (dD K k ctx plain)=uO K k ctx (gW K k ctx plain) (gJ K (gW K k ctx plain) plain):=by
 have hl:=fQ K k ctx plain h
 have h2:=(pq K (gW K k ctx plain) plain h).2
 have hn:=EC K k ctx plain
 obtain ⟨nn,hnn⟩:∃n,gW K k ctx plain=n:=⟨_,rfl⟩
 obtain ⟨bd,hbd⟩:∃n,gJ K nn plain=n:=⟨_,rfl⟩
 rw [hnn] at h2 hn ⊢
 rw [hbd] at h2 ⊢
 obtain ⟨tg,htg⟩:∃n,uO K k ctx nn bd=n:=⟨_,rfl⟩
 have ht:tg.length=32:=by rw [←htg];simp
 have hs:dD K k ctx plain=[k]++nn++bd++tg:=by rw [dD,hnn,hbd,htg]
 rw [htg]
 rw [bBody,zI,hl,hs,jx]
 have d1:([k]++nn++bd++tg).drop 1=nn++(bd++tg):=by simp
 have d13:([k]++nn++bd++tg).drop 13=bd++tg:=by
   rw [List.append_assoc];exact List.drop_left' (by simp [hn])
 refine ⟨by simp,?_,?_,?_⟩
 · rw [d1];exact List.take_left' hn
 · rw [d13];exact List.take_left' (by omega)
 · exact List.drop_left' (by simp [hn,h2];omega)

theorem yV (K:List UInt8) (k:UInt8) (ctx plain:List UInt8) (h:plain.length≤274877906944):gN K k ctx (dD K k ctx plain)=some plain:=by
 obtain ⟨p1,p2,p3,p4⟩:=D9 K k ctx plain h
 have hl:=fQ K k ctx plain h
 rw [gN,if_neg (by rw [p1,hl];simp),p2,p3,p4,if_pos rfl,(pq K _ plain h).1]

end Go.Proofs.YtpmhjnhgpplmnaaGreatDoor
end

section
namespace Go.Proofs.YtpmhjnhgpplmnaaGreatDoor
open Go Sx
set_option maxRecDepth 8000

theorem IB {T:TypeId} {m} (hT:Tryz.prog.underlying T=some (.interface m)) (o:Option Int) (n:Int) (x y:Operand) (w:World):(fF .neq T x y (bG o) (.iface 65 (.int .i64 n))).run Tryz.prog w=.ok (.bool (!decide (o=some n))) w:=by
 have hE:=Tryz.underlying65
 have hI:(typeInfo 65).run Tryz.prog w=.ok Tryz.t65 w:=by
   simp [typeInfo,show Tryz.prog.info? 65=some Tryz.t65 by kernel_rfl]
 have hc:Tryz.t65.comparable=true:=by kernel_rfl
 have h1:∀d k,(Op.equalIn (d+2) T (.iface 65 (.int .i64 k)) (.iface 65 (.int .i64 n))).run Tryz.prog w=.ok (k==n) w:=fun d k=>by
   simp [Op.equalIn,run_underlying hT,run_underlying hE,hI,hc]
 have h2:∀d U v,(Op.equalIn (d+1) T .nilIface (.iface U v)).run Tryz.prog w=.ok false w:=fun d U v=>by simp [Op.equalIn,run_underlying hT]
 cases o with
 | none=>simp [fF,eqGuard,bG,binOp,Op.equal,show Op.maxDepth=9999+1 from rfl,h2 9999]
 | some k=>
   have h3:(some k=some n)=(k=n):=by simp
   simp only [h3]
   have h4:decide (k=n)=(k==n):=rfl
   rw [h4]
   simp [fF,eqGuard,bG,binOp,Op.equal,show Op.maxDepth=9998+2 from rfl,h1 9998]

end Go.Proofs.YtpmhjnhgpplmnaaGreatDoor
end

section
namespace Go.Proofs.YtpmhjnhgpplmnaaGreatDoor
open Go Sx
set_option maxRecDepth 8000

theorem Sx.St.An {w0 w:World} {X:List Nat} {M:List Res} (h:St w0 X w M) {b a:Option Addr} {n vc m c:Nat} {xs l:List UInt8} (hv:RdB w b n vc xs) (hb0:b≠none) (hr:RdB w a m c l) (hroom:vc<n+m) (hb:n+m≤140737488355000):
   ∃va' vc' w',(Builtin.append_ #[26,26] 26 #[.slice b n vc,.slice a m c]).run Tryz.prog w=.ok (.slice va' (n+m) vc') w'∧St w0 X w' (M++ [.row 5 1 (.slice va' (n+m) vc') (n+m) (bv (xs++l))]):=by
 obtain ⟨inf,hinf,hz,hsz,hby⟩:=(bT).inf
 have hle:=hv.le
 have hle2:=hr.le
 have lv:=hv.bB
 have lr:=hr.bB
 cases b with
 | none=>exact absurd rfl hb0
 | some bd=>
   cases a with
   | none=>have:=hr.nil rfl;omega
   | some ad=>
     have holds:∀j u,(bv xs)[j]?=some u→w.cell? (bd.add j)=some u:=by
       intro j u hu
       obtain ⟨b,o,he,hc⟩:=hv.cells.at_ hu
       simp only [Option.some.injEq] at he
       subst he
       rw [Addr.add_mid]
       exact hc
     have hnews:∀j u,(bv l)[j]?=some u→w.cell? (ad.add j)=some u:=by
       intro j u hu
       obtain ⟨b,o,he,hc⟩:=hr.cells.at_ hu
       simp only [Option.some.injEq] at he
       subst he
       rw [Addr.add_mid]
       exact hc
     have hr2:=run_append_grow (P:=Tryz.prog) w 26 26 5 inf (.int .u8 0) (bT).ht hinf hz bd n vc (bv xs) (by rw [hsz,cN];omega) holds ad m c (bv l) (by rw [hsz,cN];omega) hnews hroom (by omega) (growslice_fits (by omega) (by rw [hby];omega))
     have hge:=grownCap_ge w (n+m) vc 5
     have hm:n+m≤maxLen:=by simp only [maxLen];omega
     have hcm:=grownCap_le_maxLen w (n+m) vc 5 hm
     have hlen:(bv xs++bv l).length=(n+m)*1:=by simp;omega
     refine ⟨_,_,_,hr2,h.add ((Chg.drew [] w).trans (Chg.alloc _ _)) ⟨by simpa using hlen,.inr ⟨w.heap.size,_,_,rfl,Nat.zero_le _,heap_alloc_new w.drew _,hge,hcm,?_,?_⟩⟩ (by simp [Res.fp,Value.ownBlock])⟩
     · simp only [Array.size_append,List.size_toArray,size_zeroCells,cN,(bT).zs]
       omega
     · simp only [Array.toList_append,mu]
       exact List.take_left' hlen

def dY (s:ByteArray):List UInt8:=s.data.toList
theorem Lx (s:ByteArray):s=⟨(dY s).toArray⟩:=by simp [dY]
theorem Is (s:ByteArray):s.size=(dY s).length:=rfl

theorem KC (s:ByteArray):(s.toList==(ByteArray.mk #[]).toList)=decide ((dY s).length=0):=by
 rw [ByteArray.toList_eq,ByteArray.toList_eq,dY]
 cases s.data.toList<;>rfl

def jo:List UInt8:=[97,109,112,104,111,114,97,49]
def uB (pw:List UInt8):Bool:=decide (1≤pw.length∧pw.length≤1024)
def iw (pw salt m:List UInt8):List UInt8:=if uB pw then jo++salt++dD (iQ pw salt) 1 salt m else []
def Er (pw:List UInt8):Option Int:=if uB pw then none else some 28
def iY (pw file:List UInt8):Option (List UInt8):=
 if uB pw∧file.length=101∧file.take 8=jo then gN (iQ pw ((file.drop 8).take 16)) 1 ((file.drop 8).take 16) (file.drop 24) else none
def lg (pw file:List UInt8):List UInt8:=(iY pw file).getD (List.replicate 32 0)
def ng (pw file:List UInt8):Option Int:=if uB pw then if (iY pw file).isSome then none else some 10 else some 28

@[simp] theorem My (pw salt:List UInt8):(iQ pw salt).length=96:=og _

theorem um {K:List UInt8} {k:UInt8} {ctx b p:List UInt8} (h:gN K k ctx b=some p) (hb:b.length≤274877906944):p.length=b.length-45:=by
 unfold gN at h
 split at h
 · cases h
 · split at h
   · simp only [Option.some.injEq] at h
     have hlb:(bBody b).length=b.length-45:=by rw [bBody,List.length_take,List.length_drop];omega
     rw [←h,(pq _ _ _ (by omega)).2,hlb]
   · cases h

theorem Ca (pw file:List UInt8):(lg pw file).length=32:=by
 rw [lg,iY]
 split
 · rename_i h
   cases ho:gN (iQ pw ((file.drop 8).take 16)) 1 ((file.drop 8).take 16) (file.drop 24) with
   | none=>simp
   | some p=>
     have:=um ho (by simp;omega)
     simp at this ⊢
     omega
 · simp

theorem wO (s:ByteArray) (a:Option Addr) (n c:Nat) (salt:List UInt8) (w:World) (hK:cI w) (hr:RdB w a n c salt) (hb:n+(dY s).length≤1000000000000):
   Calls Tryz.prog 226 #[.string s,.slice a n c] w fun e w'=>e=.returned (.agg (bv (iQ (dY s) salt)).toArray)∧Chg [] w w':=by
 apply zu
 obtain ⟨g1,w1,r1,h1⟩:=(St.start w).aD kyZ
 obtain ⟨g2,c2,w2,r2,hc2,hr2,_⟩:=wD s (dY s) (Lx s) w1
 have h2:=h1.same hc2
 refine ⟨g1,w1,r1,_,_,_,_,r2,(sx a n c salt _ _ c2 (dY s) _ [107,101,121] w2 rfl (hK.au h2.chg) (h2.rd1 hr) hr2 (by simp;omega)).mono ?_⟩
 rintro e w3 ⟨rfl,c3⟩
 have h3:=h2.same c3
 refine ⟨_,rfl,(nu _ w3 (by simp) (hK.au h3.chg)).mono ?_⟩
 rintro e w4 ⟨rfl,c4⟩
 obtain ⟨w5,r5,h5⟩:=(h3.same c4).stA (i:=0) (v:=bv (iQ (dY s) salt)) rfl (kyS _) (by simp) (by simp) (aO _)
 exact ⟨_,rfl,w5,r5,_,h5.bQ (i:=0) (l:=bv (iQ (dY s) salt)) rfl (kyA _) (kyS _) (by simp),rfl,h5.chg⟩

theorem nr (s:ByteArray) (w:World):Calls Tryz.prog 225 #[.string s] w fun e w'=>e=.returned (.bool (uB (dY s)))∧w'=w:=by
 apply rH
 refine ⟨?_,rfl⟩
 rw [KC,Is,uB]
 have key:∀n:Nat,(!(decide (n=0))&&decide ((n:Int)≤1024))=decide (1≤n∧n≤1024):=fun n=>by rw [Bool.eq_iff_iff];simp;omega
 rw [key]

theorem Hy (s:ByteArray) (salt m:List UInt8) (w:World) (hK:cI w) (hs:salt.length=16) (hm:m.length=32):
   Calls Tryz.prog 141 #[.string s,.agg (bv salt).toArray,.agg (bv m).toArray] w fun e w'=>∃a n c,e=.returned (.tuple #[.slice a n c,bG (Er (dY s))])∧aY w w' a n c (iw (dY s) salt m):=by
 apply B1
 obtain ⟨g1,w1,r1,h1⟩:=(St.start w).cz 209 (bv salt)
 obtain ⟨g2,w2,r2,h2⟩:=h1.cz 39 (bv m)
 refine ⟨g1,w1,r1,g2,w2,r2,(nr s w2).mono ?_⟩
 rintro e w3 ⟨rfl,rfl⟩
 cases hok:uB (dY s) with
 | false=>
   refine ⟨_,rfl,fun _=>⟨none,0,0,by rw [Er,hok];rfl,?_⟩,fun h=>by simp at h⟩
   rw [iw,hok]
   exact ⟨h2.chg,rfl,World.ownsRow_nil _ _ _ _⟩
 | true=>
   have hlen:1≤(dY s).length∧(dY s).length≤1024:=by simpa [uB] using hok
   refine ⟨_,rfl,fun h=>by simp at h,fun _=>?_⟩
   obtain ⟨g3,w4,w5,r4,r5,c5,q5⟩:=pM jo (by decide) w3
   have h5:=h2.same c5
   obtain ⟨va,vc,w6,r6,h6⟩:=h5.An q5 (by simp) (h5.rdA (i:=0) (n:=16) rfl (by simp [hs])) (by decide) (by decide)
   have h6d:=h6.drew
   obtain ⟨K,hKK⟩:∃K,iQ (dY s) salt=K:=⟨_,rfl⟩
   have hk:K.length=96:=by rw [←hKK];simp
   have qs:∀w',Chg [] w6.drew w'→RdB w' (some ⟨g1,0,none⟩) 16 16 salt:=fun w' h=>(h6d.same h).rdA (i:=0) rfl (by simp [hs])
   have qm:∀w',Chg [] w6.drew w'→RdB w' (some ⟨g2,0,none⟩) 32 32 m:=fun w' h=>(h6d.same h).rdA (i:=1) rfl (by simp [hm])
   have hu:=wO s _ 16 16 salt w6.drew (hK.au h6d.chg) (qs _ (Chg.refl _ _)) (by omega)
   rw [hKK] at hu
   refine ⟨_,_,_,_,r4,_,_,_,_,r5,by omega,by omega,_,_,_,_,r6,by omega,by omega,by omega,by omega,by omega,by omega,hu.mono ?_⟩
   rintro e w7 ⟨rfl,c7⟩
   have h7:=h6d.same c7
   refine ⟨_,rfl,(pI K 1 _ 16 16 salt _ 32 32 m w7 hk (hK.au h7.chg) (qs _ c7) (qm _ c7) (by omega)).mono ?_⟩
   rintro e w8 ⟨a8,n8,c8,rfl,hf8⟩
   have h8:St w [] w8 [.arr g1 209 (bv salt),.arr g2 39 (bv m),.row 5 1 (.slice va (8+16) vc) (8+16) (bv (jo++salt)),.row 5 1 (.slice a8 n8 c8) n8 (bv (dD K 1 salt m))]:=hf8.add h7
   have e8:=hf8.2.1
   have hl8:=fQ K 1 salt m (by omega)
   obtain ⟨vb,vd,w9,r9,h9⟩:=h8.bJ (i:=2) rfl (h8.rd (i:=3) (xs:=bv (dD K 1 salt m)) rfl) (by omega)
   refine ⟨_,_,_,rfl,_,_,_,_,r9,_,_,_,by rw [Er,hok];rfl,?_⟩
   rw [iw,if_pos hok,hKK]
   exact h9.jm (i:=2) rfl

theorem I2 (w:World):(Instr.build 39 #[]).run Tryz.prog w=.ok (.agg (bv (List.replicate 32 0)).toArray) w:=by
 have:=fP (P:=Tryz.prog) (w:=w) (T:=39) (eD w) Tryz.underlying39 (sB1 w) [] (by simp) (by simp)
 simpa using this

theorem G9 {w:World} {b o c:Nat} {l:List UInt8} (h:RdB w (some ⟨b,o,none⟩) 32 c l):(Instr.loadAt 39 (.pointer (some ⟨b,o,none⟩))).run Tryz.prog w=.ok (.agg (bv l).toArray) w:=by
 have hl:=h.bB
 rcases h.cells with h0 | ⟨b',o',e,hr⟩
 · have:(bv l).length=0:=by rw [h0];rfl
   simp at this;subst this;simp at hl
 · simp only [Option.some.injEq,Addr.mk.injEq,and_true] at e
   obtain ⟨rfl,rfl⟩:=e
   have:=cu (P:=Tryz.prog) hr
   rw [cN,hl] at this
   simp [Instr.loadAt,Instr.sureAddr,loadVar,jY,cL,this]

theorem bytes_beq (l m:List UInt8):((ByteArray.mk l.toArray).toList==(ByteArray.mk m.toArray).toList)=decide (l=m):=by
 rw [ByteArray.toList_eq,ByteArray.toList_eq]
 by_cases h:l=m<;>simp [h]

theorem Cy (s:ByteArray) (a:Option Addr) (n c:Nat) (file:List UInt8) (w:World) (hK:cI w) (hr:RdB w a n c file):
   Calls Tryz.prog 176 #[.string s,.slice a n c] w fun e w'=>e=.returned (.tuple #[.agg (bv (lg (dY s) file)).toArray,bG (ng (dY s) file)])∧Chg [] w w':=by
 have hl:=hr.bB
 have hle:=hr.le
 apply yG
 obtain ⟨m,hI⟩:=eI
 obtain ⟨g1,w1,r1,h1⟩:=(St.start w).aD eD
 have fin:∀w' (D:List UInt8),D.length=32→Chg [] w1 w'→∃w3,(Instr.storeAt 39 (.pointer (some ⟨g1,0,none⟩)) (.agg (bv D).toArray)).run Tryz.prog w'=.ok () w3∧(loadVar 39 ⟨g1,0,none⟩).run Tryz.prog w3=.ok (.agg (bv D).toArray) w3∧Chg [] w w3:=fun w' D hD hc=>by
   obtain ⟨w3,r3,h3⟩:=(h1.same hc).stA (i:=0) (v:=bv D) rfl (cL _) (by simp) (by simp [hD]) (aO _)
   exact ⟨w3,r3,h3.bQ (i:=0) (l:=bv D) rfl (jY _) (cL _) (by simp [hD]),h3.chg⟩
 refine ⟨g1,w1,r1,(nr s w1).mono ?_⟩
 rintro e w2 ⟨rfl,rfl⟩
 have hz:=Chg.refl [] w2
 cases hok:uB (dY s) with
 | false=>
   obtain ⟨w3,r3,l3,c3⟩:=fin w2 (List.replicate 32 0) (by simp) hz
   refine ⟨_,rfl,fun _=>⟨_,I2 _,w3,r3,_,l3,?_,c3⟩,fun h=>by simp at h⟩
   rw [lg,iY,if_neg (by simp [hok]),ng,hok]
   rfl
 | true=>
   have hlen:1≤(dY s).length∧(dY s).length≤1024:=by simpa [uB] using hok
   refine ⟨_,rfl,fun h=>by simp at h,fun _=>⟨fun x w'=>x=decide (¬(file.length=101∧file.take 8=jo))∧w'=w2,⟨fun h=>?_,fun h=>?_⟩,?_⟩⟩
   · have:¬file.length=101:=by simp at h;omega
     exact ⟨by simp [this],rfl⟩
   · have h101:file.length=101:=by simp at h;omega
     have q8:=jc (k:=8) (h1.rd1 hr) (by omega)
     refine ⟨by omega,by omega,_,toStr bS bE sS q8.cells q8.bB,?_,rfl⟩
     have:=bytes_beq (file.take 8) jo
     rw [show (ByteArray.mk #[97,109,112,104,111,114,97,49])=ByteArray.mk jo.toArray from rfl,this]
     simp [h101]
   rintro x w4 ⟨rfl,rfl⟩
   refine ⟨fun h=>?_,fun h=>?_⟩
   · have h':¬(file.length=101∧file.take 8=jo):=of_decide_eq_true h
     obtain ⟨w3,r3,l3,c3⟩:=fin w4 (List.replicate 32 0) (by simp) hz
     refine ⟨_,I2 _,w3,r3,_,l3,?_,c3⟩
     have ho:iY (dY s) file=none:=by rw [iY,if_neg (fun q=>h' q.2)]
     rw [lg,ng,ho,hok]
     rfl
   have h':file.length=101∧file.take 8=jo:=Decidable.not_not.1 (of_decide_eq_false h)
   clear h
   have hn:n=101:=by omega
   subst hn
   obtain ⟨salt,hsalt⟩:∃x,(file.drop 8).take 16=x:=⟨_,rfl⟩
   obtain ⟨iD,hblob⟩:∃x,file.drop 24=x:=⟨_,rfl⟩
   have ho:iY (dY s) file=gN (iQ (dY s) salt) 1 salt iD:=by rw [iY,if_pos ⟨hok,h'⟩,hsalt,hblob]
   have hw:=Chg.drew [] w4
   have q:=(h1.same hw).rd1 hr
   refine ⟨by omega,by omega,by omega,fun t27 hs27=>⟨by omega,by omega,by omega,fun t29 hs29=>?_⟩⟩
   have q1:RdB w4.drew t27 16 (c-8) salt:=by
     have:=q.sub hs27 (hh:=24) (by omega) (by omega) (by omega) (Nat.le_refl _)
     have e1:((bv file).drop (8*1)).take ((24-8)*1)=bv salt:=by rw [←hsalt,jI,fB]
     rw [e1] at this
     exact this
   have q2:RdB w4.drew t29 (101-24) (c-24) iD:=by
     have:=q.sub hs29 (hh:=101) (by omega) (by omega) (by omega) (Nat.le_refl _)
     have e1:((bv file).drop (24*1)).take ((101-24)*1)=bv iD:=by rw [←hblob,fB,List.take_of_length_le (by simp;omega)]
     rw [e1] at this
     exact this
   obtain ⟨K,hKK⟩:∃K,iQ (dY s) salt=K:=⟨_,rfl⟩
   have hk:K.length=96:=by rw [←hKK];simp
   have hu:=wO s _ 16 _ salt w4.drew (hK.au (h1.chg.trans hw)) q1 (by omega)
   rw [hKK] at hu ho
   refine hu.mono ?_
   rintro e w5 ⟨rfl,c5⟩
   have d5:=hw.trans c5
   refine ⟨_,rfl,(z6 K 1 t27 16 (c-8) salt t29 (101-24) (c-24) iD w5 hk (hK.au (h1.chg.trans d5)) (q1.au c5) (q2.au c5) (by omega)).mono ?_⟩
   rintro e w6 ⟨a6,n6,c6,rfl,hf6⟩
   have d6:=d5.trans hf6.1
   refine ⟨_,_,_,_,rfl,_,az hI _ _ _,fun h=>?_,fun h=>?_⟩
   · cases hop:gN K 1 salt iD with
     | some p=>rw [pe,hop] at h;simp at h
     | none=>
       obtain ⟨w3,r3,l3,c3⟩:=fin w6 (List.replicate 32 0) (by simp) d6
       refine ⟨_,I2 _,w3,r3,_,l3,?_,c3⟩
       rw [lg,ng,ho,hok,pe,hop]
       rfl
   · cases hop:gN K 1 salt iD with
     | none=>rw [pe,hop] at h;simp at h
     | some p=>
       rw [hop] at hf6
       have hbl:=q2.bB
       have hpl:=um hop (by omega)
       have hp6:n6=32:=by have:=hf6.2.1;simp at this;omega
       subst hp6
       have hrd:=hf6.rdB
       have ha6:∃b o,a6=some ⟨b,o,none⟩:=by
         rcases hrd.cells with h0 | ⟨b,o,e,_⟩
         · have h00:(bv ((some p).getD [])).length=0:=by rw [h0];rfl
           rw [cN,Option.getD_some] at h00
           omega
         · exact ⟨b,o,e⟩
       obtain ⟨b,o,rfl⟩:=ha6
       obtain ⟨w3,r3,l3,c3⟩:=fin w6 p (by omega) d6
       refine ⟨_,run_arrayAt w6 39 _ 32 _ 32 _ Tryz.underlying39 (Nat.le_refl _),_,G9 hrd,w3,r3,_,l3,?_,c3⟩
       rw [lg,ng,ho,hok,hop]
       rfl

end Go.Proofs.YtpmhjnhgpplmnaaGreatDoor
end

section
namespace Go.Proofs.YtpmhjnhgpplmnaaGreatDoor
open Go Go.Proofs.YtpmhjnhgpplmnaaGreatDoor.Sx
set_option maxRecDepth 100000
variable (w:World) (R:Ending→World→Prop)
theorem sY (a:Array Value) (b:Int) (c:Option Addr) (d e:Nat) (h:Bxz 41 (.agg a) w fun a e=>Cbz 221 #[.int .i64 b] e fun e f=>Ifz (!e) (R (.returned (.tuple #[.pointer none,.iface 65 (.int .i64 28)])) f) (∃(e:Int→World→Prop) (g:Int→World→Nat),e 0 f∧∀f h,e f h→Ifz (decide (f<(d:Int))) (∃a b,c=some ⟨a,b,none⟩∧0≤f∧f<(d:Int)∧Laz 303 a (b+Int.toNat f*33) h fun a=>Alz 303 h fun b c=>Stz 303 b 0 (.agg a) c fun a=>Llz 26 b 32 a fun b c d=>Ifz (decide ((c:Int)>67108832)) (R (.returned (.tuple #[.pointer none,.iface 65 (.int .i64 7)])) a) (e (IntKind.wrap .i64 (f+1)) a∧g (IntKind.wrap .i64 (f+1)) a<g f h)) (Calls Tryz.prog 336 #[.int .i64 b] h (fun b e=>∃f g,b=.returned (.pointer (some ⟨f,g,none⟩))∧∃(b:Int→World→Prop) (h:Int→World→Nat),b 0 e∧∀e i,b e i→Ifz (decide (e<(d:Int))) (∃a j,c=some ⟨a,j,none⟩∧0≤e∧e<(d:Int)∧Laz 303 a (j+Int.toNat e*33) i fun a=>Alz 303 i fun c d=>Stz 303 c 0 (.agg a) d fun a=>Laz 303 c 0 a fun c=>Calls Tryz.prog 337 #[.pointer (some ⟨f,g,none⟩),.agg c] a fun a c=>a=.returned (.tuple #[])∧b (IntKind.wrap .i64 (e+1)) c∧h (IntKind.wrap .i64 (e+1)) c<h e i) (Laz 41 a 0 i (fun a=>Calls Tryz.prog 338 #[.pointer (some ⟨f,g,none⟩),.agg a] i fun a b=>a=.returned (.tuple #[])∧R (.returned (.tuple #[.pointer (some ⟨f,g,none⟩),.nilIface])) b)))))):Calls Tryz.prog 290 #[.agg a,.int .i64 b,.slice c d e] w R:=af 0x3d004831c2b0048311067838c8200321d011491184911c2983d2016141c2b003d30d731c067838c8200321d0112b11a2b119263983d2003d3014141c20d7c Tryz.func290 (by kernel_rfl) h
theorem zx (a:Int) (h:Buz 388 #[(1,.int .i64 a)] w fun b=>Bxz 388 (.agg b) w fun b c=>∃d:World→Prop,(Bsz 26 8 #[(0,.int .u8 97),(1,.int .u8 109),(2,.int .u8 112),(3,.int .u8 104),(4,.int .u8 112),(5,.int .u8 97),(6,.int .u8 99),(7,.int .u8 107)] c.drew (fun c e f g=>Cvz 26 26 (.slice c e f) g (fun c e f g=>Clz 196 #[.int .i64 a] g fun a g h i=>Apz 26 (.slice c e f) (.slice a g h) i fun a c e f=>Calls Tryz.prog 367 #[.pointer (some ⟨b,0,none⟩),.slice a c e] f fun a b=>a=.returned (.tuple #[])∧d b)∧Clz 196 #[.int .i64 a] g fun a g h i=>Cvz 26 26 (.slice c e f) i fun c e f i=>Apz 26 (.slice c e f) (.slice a g h) i fun a c e f=>Calls Tryz.prog 367 #[.pointer (some ⟨b,0,none⟩),.slice a c e] f fun a b=>a=.returned (.tuple #[])∧d b)∧Clz 196 #[.int .i64 a] c.drew fun a c e f=>Bsz 26 8 #[(0,.int .u8 97),(1,.int .u8 109),(2,.int .u8 112),(3,.int .u8 104),(4,.int .u8 112),(5,.int .u8 97),(6,.int .u8 99),(7,.int .u8 107)] f fun f g h i=>Cvz 26 26 (.slice f g h) i fun f g h i=>Apz 26 (.slice f g h) (.slice a c e) i fun a c e f=>Calls Tryz.prog 367 #[.pointer (some ⟨b,0,none⟩),.slice a c e] f fun a b=>a=.returned (.tuple #[])∧d b)∧∀a,d a→R (.returned (.pointer (some ⟨b,0,none⟩))) a):Calls Tryz.prog 336 #[.int .i64 a] w R:=af 0x2d19010081847274724472347186008184727472447186008184727471864724672365210424001971a2017831c1d Tryz.func336 (by kernel_rfl) h
theorem qO (a b:Nat) (c:Option Addr) (d e:Nat) (h:Llz 24 a b w fun f g h=>Bsz 24 1 #[(0,.slice c d e)] w fun c e i j=>Apz 24 (.slice f g h) (.slice c e i) j fun c e f g=>Stz 24 a b (.slice c e f) g fun c=>Liz 3 a (b+1) c fun e=>∃f,(Instr.storeAt 3 (.pointer (some ⟨a,b+1,none⟩)) (.int .i64 (IntKind.wrap .i64 (e+(d:Int))))).run Tryz.prog c=.ok () f∧R (.returned (.tuple #[])) f):Calls Tryz.prog 367 #[.pointer (some ⟨a,b,none⟩),.slice c d e] w R:=af 0x65203e106d757517342c Tryz.func367 (by kernel_rfl) h
theorem sW (a b:Nat) (c:Array Value) (h:Bxz 303 (.agg c) w fun c d=>∃e:World→Prop,e d.drew∧0≤(32:Int)∧(32:Int)≤32∧∃f g h,(∀a,e a→LdQ 26 c 32 (.slice f g h) a)∧Bsz 24 2 #[(0,.slice (some ⟨c,0,none⟩) 32 32),(1,.slice f g h)] d.drew fun d f g h=>∃i:World→Prop,(∀a,i a→e a)∧i h∧Clz 368 #[.int .u8 2,.slice d f g] h fun d e f g=>∃h:World→Prop,(∀a,h a→i a)∧h g∧∃h:World→Prop,h g.drew∧∃i,(∀c,h c→LdQ 3 a (b+1) (.int .i64 i) c)∧∃j k l,(∀a,h a→LdQ 26 c 32 (.slice j k l) a)∧Calls Tryz.prog 367 #[.pointer (some ⟨a,b,none⟩),.slice d e f] g.drew fun d f=>d=.returned (.tuple #[])∧∃d:World→Prop,d f.drew∧∃g h j,(∀c,d c→LdQ 48 a (b+3) (.slice g h j) c)∧∃l,(∀a,d a→LdQ 87 c 0 (.agg l) a)∧∃m,(∀c,d c→LdQ 3 a (b+2) (.int .i64 m) c)∧∃n o p,(∀a,d a→LdQ 26 c 32 (.slice n o p) a)∧∃c,(∀a,d a→(Instr.build 100 #[(0,.agg l),(1,.int .i64 m),(2,.int .i64 (IntKind.wrap .i64 (IntKind.wrap .i64 (i+(e:Int))- (k:Int)))),(3,.int .i64 (o:Int))]).run Tryz.prog a=.ok (.agg c) a)∧Bsz 48 1 #[(0,.agg c)] f.drew fun c e f i=>∃k:World→Prop,(∀a,k a→d a)∧k i∧Apz 48 (.slice g h j) (.slice c e f) i fun c d e f=>∃g:World→Prop,(∀a,g a→k a)∧g f∧Stz 48 a (b+3) (.slice c d e) f fun a=>R (.returned (.tuple #[])) a):Calls Tryz.prog 337 #[.pointer (some ⟨a,b,none⟩),.agg c] w R:=af 0x12c1042c42b2a22722947228481f301e171d301a38637431c1b19187532101a2500442c001c1b1a327193071043186532107252000617185472447330216110015207c Tryz.func337 (by kernel_rfl) h
theorem s9 (a b:Nat) (c:Array Value) (h:Bxz 41 (.agg c) w fun c d=>∃e:World→Prop,e d.drew∧∃f,(∀a,e a→LdQ 41 c 0 (.agg f) a)∧∃c,(∀d,e d→LdQ 3 a (b+2) (.int .i64 c) d)∧∃g h i,(∀c,e c→LdQ 48 a (b+3) (.slice g h i) c)∧Clz 196 #[.int .i64 c] d.drew fun c d j k=>∃l:World→Prop,(∀a,l a→e a)∧l k∧Clz 260 #[.slice g h i] k fun e g h i=>∃k:World→Prop,(∀a,k a→l a)∧k i∧Clz 101 #[.agg f,.int .u8 3,.slice c d j,.slice e g h] i fun c d e f=>∃g:World→Prop,(∀a,g a→k a)∧g f∧Bsz 24 1 #[(0,.slice c d e)] f fun c d e f=>∃h:World→Prop,(∀a,h a→g a)∧h f∧Clz 368 #[.int .u8 3,.slice c d e] f fun c d e f=>∃g:World→Prop,(∀a,g a→h a)∧g f∧Calls Tryz.prog 367 #[.pointer (some ⟨a,b,none⟩),.slice c d e] f fun a b=>a=.returned (.tuple #[])∧∃a:World→Prop,(∀b,a b→g b)∧a b∧R (.returned (.tuple #[])) b):Calls Tryz.prog 338 #[.pointer (some ⟨a,b,none⟩),.agg c] w R:=af 0x8294718284721f47181e47181d471818471c30738331b1a19654210192507c Tryz.func338 (by kernel_rfl) h
theorem tH (a:Option Addr) (b c:Nat) (h:∃(c:Option Addr→Nat→Nat→Int→World→Prop) (d:Option Addr→Nat→Nat→Int→World→Nat),c none 0 0 0 w∧∀e f g h i,c e f g h i→Ifz (decide (h<(b:Int))) (∃j k,a=some ⟨j,k,none⟩∧0≤h∧h<(b:Int)∧Laz 100 j (k+Int.toNat h*35) i fun a=>Alz 100 i fun b j=>Stz 100 b 0 (.agg a) j fun a=>0≤(32:Int)∧(32:Int)≤32∧Apz 26 (.slice e f g) (.slice (some ⟨b,0,none⟩) 32 32) a fun a j k l=>Liz 3 b 33 l fun m=>Clz 196 #[.int .i64 m] l fun l m n o=>Apz 26 (.slice a j k) (.slice l m n) o fun a j k l=>Liz 3 b 34 l fun b=>Clz 196 #[.int .i64 b] l fun b l m n=>Apz 26 (.slice a j k) (.slice b l m) n fun a b j k=>c a b j (IntKind.wrap .i64 (h+1)) k∧d a b j (IntKind.wrap .i64 (h+1)) k<d e f g h i) (R (.returned (.slice e f g)) i)):Calls Tryz.prog 260 #[.slice a b c] w R:=af 0x2d2b017571403d1017571403dc01759dc067838c8200321d0721181322b1815133983d21d1d Tryz.func260 (by kernel_rfl) h
theorem BC (a:Int) (h:R (.returned (.bool (decide (a≥(0:Int))&&decide (a≤(1099511627776:Int))))) w):Calls Tryz.prog 221 #[.int .i64 a] w R:=af 0x12bec1d Tryz.func221 (by kernel_rfl) h
theorem BL (a:Int) (h:Cbz 221 #[.int .i64 a] w fun b c=>Ifz (!b) (R (.returned (.string (ByteArray.mk #[]))) c) (Csz 95 #[.int .i64 a] c (fun a b=>∃c,(fF .add 9 (.const (.string (ByteArray.mk #[112]))) (.tmp 7) (.string (ByteArray.mk #[112])) (.string a)).run Tryz.prog b=.ok (.string c) b∧R (.returned (.string c)) b))):Calls Tryz.prog 132 #[.int .i64 a] w R:=af 0x1535141c001d3014141c21d Tryz.func132 (by kernel_rfl) h
theorem sE (a b:Nat) (c:Array Value) (d:Int) (e:Option Addr) (f g:Nat) (h:Bxz 41 (.agg c) w fun c h=>Alz 91 h fun h i=>Laz 41 c 0 i fun c=>C2z 290 #[.agg c,.int .i64 d,.slice e f g] i fun c e g=>Nez .neq 58 (.tmp 26) e g fun i=>Ifz i (Buz 91 #[] g (fun a=>Stz 91 h 0 (.agg a) g fun a=>∃b,(loadVar 91 ⟨h,0,none⟩).run Tryz.prog a=.ok b a∧R (.returned (.tuple #[.slice none 0 0,b,e])) a)) (Csz 132 #[.int .i64 d] g (fun e g=>Cvv 144 #[.pointer (some ⟨a,b,none⟩),.string e] g fun g i=>Nez .neq 58 (.tmp 35) g i fun j=>Ifz j (Buz 91 #[] i (fun a=>Stz 91 h 0 (.agg a) i fun a=>∃b,(loadVar 91 ⟨h,0,none⟩).run Tryz.prog a=.ok b a∧R (.returned (.tuple #[.slice none 0 0,b,g])) a)) (∃g j,c=.pointer (some ⟨g,j,none⟩)∧Llz 24 g j i fun g j k=>∃(k:Int→World→Prop) (l:Int→World→Nat),k 0 i∧∀i m,k i m→Ifz (decide (i<(j:Int))) (∃c d,g=some ⟨c,d,none⟩∧0≤i∧i<(j:Int)∧Llz 26 c (d+Int.toNat i*1) m fun c d f=>Bsz 24 1 #[(0,.slice c d f)] m fun c d f g=>Cvv 145 #[.pointer (some ⟨a,b,none⟩),.string e,.slice c d f] g fun a b=>Nez .neq 58 (.tmp 54) a b fun c=>Ifz c (Buz 91 #[] b (fun c=>Stz 91 h 0 (.agg c) b fun b=>∃c,(loadVar 91 ⟨h,0,none⟩).run Tryz.prog b=.ok c b∧R (.returned (.tuple #[.slice none 0 0,c,a])) b)) (k (IntKind.wrap .i64 (i+1)) b∧l (IntKind.wrap .i64 (i+1)) b<l i m)) (Cvv 146 #[.pointer (some ⟨a,b,none⟩),.string e] m (fun a b=>Nez .neq 58 (.tmp 62) a b fun e=>Ifz e (Buz 91 #[] b (fun c=>Stz 91 h 0 (.agg c) b fun b=>∃c,(loadVar 91 ⟨h,0,none⟩).run Tryz.prog b=.ok c b∧R (.returned (.tuple #[.slice none 0 0,c,a])) b)) (∃a:World→Prop,a b.drew∧∃e g,c=.pointer (some ⟨e,g,none⟩)∧∃i j,c=.pointer (some ⟨i,j,none⟩)∧∃c k l,(∀b,a b→LdQ 48 e (g+3) (.slice c k l) b)∧∃e,(∀b,a b→LdQ 3 i (j+1) (.int .i64 e) b)∧∃g,(∀b,a b→(Instr.build 91 #[(0,.int .i64 d),(1,.int .i64 e),(2,.int .i64 (f:Int))]).run Tryz.prog b=.ok (.agg g) b)∧Stz 91 h 0 (.agg g) b.drew fun a=>∃b,(loadVar 91 ⟨h,0,none⟩).run Tryz.prog a=.ok b a∧R (.returned (.tuple #[.slice c k l,b,.nilIface])) a))))))):Calls Tryz.prog 220 #[.pointer (some ⟨a,b,none⟩),.agg c,.int .i64 d,.slice e f g] w R:=af 0x21e1001f141e481c3019301d17331b1a18742e6154232e110015200016d83c30431c01914dc22b00016d83c30431c0191475ec01738c8200321d0115d11e5d22811a1184980d73dea1c200016d83c30431c01914dc2015141c00016d83c30431c20529924d83c01717c Tryz.func220 (by kernel_rfl) h
end Go.Proofs.YtpmhjnhgpplmnaaGreatDoor
end

section
namespace Go.Proofs.YtpmhjnhgpplmnaaGreatDoor
open Go Sx
set_option maxRecDepth 8000

structure PcD where
 a:Option Addr
 c:Nat
 l:List UInt8
def PcD.v (p:PcD):Value:=.slice p.a p.l.length p.c
def PcD.row (p:PcD):Res:=.row 5 1 (.slice p.a p.l.length p.c) p.l.length (bv p.l)
structure FP where
 la:Option Addr
 lc:Nat
 ps:List PcD
 ra:Option Addr
 rc:Nat
 rs:List bw
def mj (num:Int) (f:FP):List Value:=[.slice f.la f.ps.length f.lc,.int .i64 (((f.ps.map PcD.l).flatten.length:Nat):Int),.int .i64 num,.slice f.ra f.rs.length f.rc]
def lD (g:Nat) (num:Int) (f:FP):List Res:=[.arr g 388 (mj num f),.row 26 1 (.slice f.la f.ps.length f.lc) f.ps.length (f.ps.map PcD.v),.row 100 35 (.slice f.ra f.rs.length f.rc) f.rs.length (f.rs.flatMap aF)]
def bU (w0:World) (X:List Nat) (w:World) (g:Nat) (num:Int) (ps:List (List UInt8)) (rs:List bw) (N:List Res):Prop:=∃f:FP,f.ps.map PcD.l=ps∧f.rs=rs∧St w0 X w (lD g num f++(f.ps.map PcD.row++N))

theorem NH (w:World):(isAgg 24).run Tryz.prog w=.ok false w:=Tryz.isAgg24 w
theorem Pb (w:World):(sizeOf 24).run Tryz.prog w=.ok 1 w:=Tryz.sizeOf24 w
theorem O4 (w:World):(sizeOf 3).run Tryz.prog w=.ok 1 w:=Tryz.sizeOf3 w
theorem L9 (w:World):(isAgg 48).run Tryz.prog w=.ok false w:=Tryz.isAgg48 w
theorem OE (w:World):(sizeOf 48).run Tryz.prog w=.ok 1 w:=Tryz.sizeOf48 w
theorem MT (w:World):(isAgg 26).run Tryz.prog w=.ok false w:=Tryz.isAgg26 w

section
variable {w0 w w':World} {X:List Nat} {N N' T:List Res} {g:Nat} {num:Int} {ps:List (List UInt8)} {rs:List bw}

theorem bU.same (h:bU w0 X w g num ps rs N) (hc:Chg [] w w'):bU w0 X w' g num ps rs N:=by obtain ⟨f,h1,h2,hS⟩:=h;exact ⟨f,h1,h2,hS.same hc⟩
theorem bU.chg (h:bU w0 X w g num ps rs N):Chg X w0 w:=by obtain ⟨f,h1,h2,hS⟩:=h;exact hS.chg
theorem bU.rest (h:bU w0 X w g num ps rs N):St w0 X w N:=by
 obtain ⟨f,h1,h2,hS⟩:=h
 exact hS.sub ((List.sublist_append_right _ _).trans (List.sublist_append_right _ _))
theorem bU.cR (h:bU w0 X w g num ps rs N) (h':St w [] w' T):bU w0 X w' g num ps rs (N++T):=by
 obtain ⟨f,h1,h2,hS⟩:=h
 refine ⟨f,h1,h2,?_⟩
 have:=Sx.St.cq (N:=[]) (by rw [List.append_nil];exact hS) h'
 rw [List.append_assoc,List.append_assoc] at this
 exact this
theorem bU.IL (h:bU w0 X w g num ps rs N) (hn:N'.Sublist N):bU w0 X w g num ps rs N':=by
 obtain ⟨f,h1,h2,hS⟩:=h
 exact ⟨f,h1,h2,hS.sub (List.Sublist.append_left (List.Sublist.append_left hn _) _)⟩

theorem vi {f:FP} {a:Option Addr} {c:Nat} {l:List UInt8} (hS:St w0 X w (lD g num f++(f.ps.map PcD.row++(N++ [.row 5 1 (.slice a l.length c) l.length (bv l)])))) (hp:f.ps.length<1000000) (hb:(f.ps.map PcD.l).flatten.length+l.length≤4611686018427387904):
   Calls Tryz.prog 367 #[.pointer (some ⟨g,0,none⟩),.slice a l.length c] w fun e w'=>e=.returned (.tuple #[])∧∃la lc,St w0 X w' (lD g num { f with la:=la,lc:=lc,ps:=f.ps++ [⟨a,c,l⟩] } ++((f.ps++ [(⟨a,c,l⟩:PcD)]).map PcD.row++N)):=by
 apply qO
 obtain ⟨g2,w2,va,vc,w3,r2,r3,h3,h2,c2⟩:=hS.Ko (i:=1) (ty:=24) bbT rfl (.slice a l.length c) rfl (by omega) (by simp only [maxLen];omega)
 obtain ⟨w4,r4,h4⟩:=h3.stL (i:=0) (o:=0) (off:=0) (T:=24) (v:=.slice va (f.ps.length+1) vc) rfl (Pb _) rfl (by simp [mj]) rfl
 have e1:IntKind.wrap .i64 ((((f.ps.map PcD.l).flatten.length:Nat):Int)+((l.length:Nat):Int))=((((f.ps++ [(⟨a,c,l⟩:PcD)]).map PcD.l).flatten.length:Nat):Int):=by
   rw [wrap_i64 (by omega) (by omega)];simp
 obtain ⟨w5,r5,h5⟩:=h4.stL (i:=0) (o:=1) (off:=1) (T:=3) (v:=.int .i64 ((((f.ps++ [(⟨a,c,l⟩:PcD)]).map PcD.l).flatten.length:Nat):Int)) rfl (O4 _) rfl (by simp [mj]) rfl
 refine ⟨_,_,_,hS.ldL (i:=0) (o:=0) rfl (NH _) rfl rfl,_,_,_,w2,r2,_,_,_,w3,r3,w4,r4,_,h4.ldL (i:=0) (o:=1) rfl (inA _) rfl rfl,w5,by rw [e1];exact r5,rfl,va,vc,?_⟩
 have h6:St w0 X w5 ([.arr g 388 [.slice va (f.ps.length+1) vc,.int .i64 ((((f.ps++ [(⟨a,c,l⟩:PcD)]).map PcD.l).flatten.length:Nat):Int),.int .i64 num,.slice f.ra f.rs.length f.rc],.row 26 1 (.slice va (f.ps.length+1) vc) (f.ps.length+1) (f.ps.map PcD.v++ [.slice a l.length c]),.row 100 35 (.slice f.ra f.rs.length f.rc) f.rs.length (f.rs.flatMap aF)]++(f.ps.map PcD.row++(N++ [.row 5 1 (.slice a l.length c) l.length (bv l)]))):=h5
 have e2:lD g num { f with la:=va,lc:=vc,ps:=f.ps++ [⟨a,c,l⟩] } =[.arr g 388 [.slice va (f.ps.length+1) vc,.int .i64 ((((f.ps++ [(⟨a,c,l⟩:PcD)]).map PcD.l).flatten.length:Nat):Int),.int .i64 num,.slice f.ra f.rs.length f.rc],.row 26 1 (.slice va (f.ps.length+1) vc) (f.ps.length+1) (f.ps.map PcD.v++ [.slice a l.length c]),.row 100 35 (.slice f.ra f.rs.length f.rc) f.rs.length (f.rs.flatMap aF)]:=by
   simp [lD,mj,PcD.v]
 rw [e2]
 refine h6.perm (List.Perm.append_left _ ?_)
 show (f.ps.map PcD.row++(N++ [PcD.row ⟨a,c,l⟩])).Perm ((f.ps++ [(⟨a,c,l⟩:PcD)]).map PcD.row++N)
 rw [List.map_append,List.append_assoc]
 exact List.Perm.append_left _ List.perm_append_comm

theorem yx {a:Option Addr} {c:Nat} {l:List UInt8} (h:bU w0 X w g num ps rs (N++ [.row 5 1 (.slice a l.length c) l.length (bv l)])) (hp:ps.length<1000000) (hb:ps.flatten.length+l.length≤4611686018427387904):
   Calls Tryz.prog 367 #[.pointer (some ⟨g,0,none⟩),.slice a l.length c] w fun e w'=>e=.returned (.tuple #[])∧bU w0 X w' g num (ps++ [l]) rs N:=by
 obtain ⟨f,rfl,rfl,hS⟩:=h
 refine (vi hS (by simpa using hp) hb).mono ?_
 rintro e w' ⟨rfl,la,lc,h'⟩
 exact ⟨rfl, { f with la:=la,lc:=lc,ps:=f.ps++ [⟨a,c,l⟩] },by simp,rfl,h'⟩

theorem HD:Tryz.prog.built 388=fun parts=>Instr.fill (fun i=>(#[(0,2),(2,1),(3,1)]:Array (Nat×Nat))[i]?) #[.slice none 0 0,.int .i64 0,.int .i64 0,.slice none 0 0] parts:=by kernel_rfl
theorem Hq (num:Int) (w:World):(Instr.build 388 #[(1,.int .i64 num)]).run Tryz.prog w=.ok (.agg #[.slice none 0 0,.int .i64 0,.int .i64 num,.slice none 0 0]) w:=by
 apply run_build
 rw [HD]
 show Instr.fill _ _ [(1,_)]=_
 rw [aC (off:=2) (sz:=1) rfl rfl (by simp)]
 rfl

theorem iT (x:Int) (w:World):Calls Tryz.prog 196 #[.int .i64 x] w fun e w'=>∃a c,e=.returned (.slice a 8 c)∧aY w w' a 8 c (fu (n64 x)):=by
 refine (Aa x w).mono ?_
 rintro e w' ⟨a,n,c,rfl,hf⟩
 have hn:n=8:=by rw [←hf.2.1];exact sJ _
 subst hn
 exact ⟨a,c,rfl,hf⟩

theorem Bj (num:Int) (w:World):Calls Tryz.prog 336 #[.int .i64 num] w fun e w'=>∃g,e=.returned (.pointer (some ⟨g,0,none⟩))∧bU w [] w' g num [iF num] [] []:=by
 apply zx
 obtain ⟨g,w1,r1,h1⟩:=(St.start w).cz (P:=Tryz.prog) 388 [.slice none 0 0,.int .i64 0,.int .i64 num,.slice none 0 0]
 have h1f:bU w [] w1 g num [] [] []:=⟨⟨none,0,[],none,0,[]⟩,rfl,rfl,(h1.bZ 26 1).bZ 100 35⟩
 refine ⟨_,Hq num w,g,w1,r1,fun w'=>bU w [] w' g num [iF num] [] [],?_,fun w' hw=>⟨g,rfl,hw⟩⟩
 have fin:∀ {w':World} {M:List Res} {g2:Nat} {a:Option Addr} {c:Nat},bU w [] w' g num [] [] M→RdB w' (some ⟨g2,0,none⟩) 8 8 oS→RdB w' a 8 c (fu (n64 num))→∃va vc w'',(Builtin.append_ #[26,26] 26 #[.slice (some ⟨g2,0,none⟩) 8 8,.slice a 8 c]).run Tryz.prog w'=.ok (.slice va 16 vc) w''∧
     Calls Tryz.prog 367 #[.pointer (some ⟨g,0,none⟩),.slice va 16 vc] w'' fun e w3=>e=.returned (.tuple #[])∧bU w [] w3 g num [iF num] [] []:=by
   intro w' M g2 a c hF hm hn
   obtain ⟨va,vc,w2,r2,k2⟩:=(St.start w').An hm (by simp) hn (by decide) (by decide)
   refine ⟨va,vc,w2,r2,?_⟩
   have hF2:=hF.cR k2
   have e16:(iF num).length=16:=jN num
   have hF3:bU w [] w2 g num [] [] (M++ [.row 5 1 (.slice va (iF num).length vc) (iF num).length (bv (iF num))]):=by rw [e16];exact hF2
   have:=yx hF3 (by simp) (by simp)
   rw [e16] at this
   refine this.mono ?_
   rintro e w3 ⟨rfl,h3⟩
   exact ⟨rfl,h3.IL (List.nil_sublist _)⟩
 have lit:∀w',∃g2 w'',(Instr.buildSlice 26 8 #[(0,.int .u8 97),(1,.int .u8 109),(2,.int .u8 112),(3,.int .u8 104),(4,.int .u8 112),(5,.int .u8 97),(6,.int .u8 99),(7,.int .u8 107)]).run Tryz.prog w'=.ok (.slice (some ⟨g2,0,none⟩) 8 8) w''∧St w' [] w'' [.row 5 1 (.slice (some ⟨g2,0,none⟩) 8 8) 8 (bv oS)]:=fun w'=>(St.start w').lit bT (bv oS) (aO _) (by decide)
 refine ⟨?_,?_⟩
 · obtain ⟨g2,w2,r2,k2⟩:=lit w1.drew
   refine ⟨_,_,_,w2,r2,?_,?_⟩
   · obtain ⟨w3,o,r3,k3,ho⟩:=kP k2 (i:=0) rfl
     have k3:St w1.drew [] w3 [.blk g2 o]:=k3
     refine ⟨_,_,_,w3,r3,(iT num w3).mono ?_⟩
     rintro e w4 ⟨a,c,rfl,hf⟩
     have k4:St w1.drew [] w4 [.blk g2 o,.row 5 1 (.slice a 8 c) 8 (bv (fu (n64 num)))]:=hf.add k3
     obtain ⟨va,vc,w5,r5,hC⟩:=fin ((h1f.same (Chg.drew [] w1)).cR k4) (ho _ (k4.holds 0 _ rfl)) (k4.rd (i:=1) rfl)
     exact ⟨_,_,_,rfl,_,_,_,w5,r5,hC⟩
   · refine (iT num w2).mono ?_
     rintro e w3 ⟨a,c,rfl,hf⟩
     have k3:St w1.drew [] w3 [.row 5 1 (.slice (some ⟨g2,0,none⟩) 8 8) 8 (bv oS),.row 5 1 (.slice a 8 c) 8 (bv (fu (n64 num)))]:=hf.add k2
     obtain ⟨w4,o,r4,k4,ho⟩:=kP k3 (i:=0) rfl
     have k4:St w1.drew [] w4 [.blk g2 o,.row 5 1 (.slice a 8 c) 8 (bv (fu (n64 num)))]:=k4
     obtain ⟨va,vc,w5,r5,hC⟩:=fin ((h1f.same (Chg.drew [] w1)).cR k4) (ho _ (k4.holds 0 _ rfl)) (k4.rd (i:=1) rfl)
     exact ⟨_,_,_,rfl,_,_,_,w4,r4,_,_,_,w5,r5,hC⟩
 · refine (iT num w1.drew).mono ?_
   rintro e w2 ⟨a,c,rfl,hf⟩
   have k2:St w1.drew [] w2 [.row 5 1 (.slice a 8 c) 8 (bv (fu (n64 num)))]:=hf.add (St.start w1.drew)
   obtain ⟨g2,w3,r3,k3⟩:=k2.lit bT (bv oS) (aO _) (by decide)
   have k3:St w1.drew [] w3 [.row 5 1 (.slice a 8 c) 8 (bv (fu (n64 num))),.row 5 1 (.slice (some ⟨g2,0,none⟩) 8 8) 8 (bv oS)]:=k3
   obtain ⟨w4,o,r4,k4,ho⟩:=kP k3 (i:=1) rfl
   have k4:St w1.drew [] w4 [.row 5 1 (.slice a 8 c) 8 (bv (fu (n64 num))),.blk g2 o]:=k4
   obtain ⟨va,vc,w5,r5,hC⟩:=fin ((h1f.same (Chg.drew [] w1)).cR k4) (ho _ (k4.holds 1 _ rfl)) (k4.rd (i:=0) rfl)
   exact ⟨_,_,_,rfl,_,_,_,w3,r3,_,_,_,w4,r4,_,_,_,w5,r5,hC⟩

end

end Go.Proofs.YtpmhjnhgpplmnaaGreatDoor
end

section
namespace Go.Proofs.YtpmhjnhgpplmnaaGreatDoor
open Go Sx
set_option maxRecDepth 8000

theorem itA (w:World):(isAgg 303).run Tryz.prog w=.ok true w:=Tryz.isAgg303 w
theorem itS (w:World):(sizeOf 303).run Tryz.prog w=.ok 33 w:=Tryz.sizeOf303 w
def it0:ItD:=⟨List.replicate 32 0,none,0,0,[],by simp⟩
theorem itZ (w:World):(zeroValue 303).run Tryz.prog w=.ok (.agg (itC it0).toArray) w:=Tryz.zeroValue303 w
theorem DW (x:ItD):(itC x)[32]?=some (.slice x.a x.n x.c):=by
 rw [itC,List.getElem?_append_right (by simp [x.idl])];simp [x.idl]

theorem IA (id:List UInt8) (p q n:Int) (w:World) (hl:id.length=32):(Instr.build 100 #[(0,.agg (bv id).toArray),(1,.int .i64 p),(2,.int .i64 q),(3,.int .i64 n)]).run Tryz.prog w=.ok (.agg (bv id++ [Value.int .i64 p,Value.int .i64 q,Value.int .i64 n]).toArray) w:=by
 apply run_build
 rw [HU]
 show Instr.fill _ _ [(0,_),(1,_),(2,_),(3,_)]=_
 have hz:(aF dX).toArray=(bv (List.replicate 32 0)++ [Value.int .i64 0,Value.int .i64 0,Value.int .i64 0]).toArray:=rfl
 rw [hz,aC (off:=0) (sz:=32) rfl (by simp [Value.cells,hl]) (by simp),aC (off:=32) (sz:=1) rfl rfl (by simp [Value.cells,hl]),aC (off:=33) (sz:=1) rfl rfl (by simp [Value.cells,hl]),aC (off:=34) (sz:=1) rfl rfl (by simp [Value.cells,hl])]
 have hbl:(bv id).length=32:=by simp [hl]
 simp [Instr.fill,Value.cells,List.take_append,List.drop_append,hbl,List.take_of_length_le,List.drop_of_length_le,hl]

section
variable {w0 w w':World} {X:List Nat} {M N N' T:List Res} {g:Nat} {num:Int} {ps:List (List UInt8)} {rs:List bw}

theorem Sx.St.vu (h:St w0 X w M) {i g:Nat} {T:TypeId} {x:ItD} (hi:M[i]?=some (.arr g T (itC x))):RdB w (some ⟨g,0,none⟩) 32 32 x.id:=by
 have rng:=h.ku hi
 refine ⟨.inr ⟨g,0,rfl,fun j v hj=>rng j v ?_⟩,by simp [x.idl],Nat.le_refl _,by simp⟩
 rw [itC,List.getElem?_append_left (List.getElem?_eq_some_iff.1 hj).1];exact hj

theorem sD (x:Itm) (h:x.1.length=32) (hb:x.2.length≤67108832):33+x.2.length≤(dK x).length∧(dK x).length≤42+x.2.length:=by
 have:=eY 9 (x.1++x.2).length (by rw [List.length_append,h];omega) (by decide)
 have:=xk (x.1++x.2).length
 simp only [dK,ko,List.length_cons,List.length_append,h] at*
 omega

set_option maxHeartbeats 1000000 in
theorem CE (x:ItD) (h:bU w0 X w g num ps rs N) (hr:RdB w x.a x.n x.c x.iD) (hb:x.n≤67108832) (hp:ps.length<1000000) (hrs:rs.length<1000000) (hs:ps.flatten.length≤1099511627776) (hnum:OkI num):
   Calls Tryz.prog 337 #[.pointer (some ⟨g,0,none⟩),.agg (itC x).toArray] w fun e w'=>e=.returned (.tuple #[])∧
     bU w0 X w' g num (ps++ [dK x.t]) (rs++ [mkRef x.id num (((ps.flatten.length+(dK x.t).length:Nat):Int)- ((x.iD.length:Nat):Int)) ((x.iD.length:Nat):Int)]) N:=by
 have hl:=hr.bB
 have hid:=x.idl
 obtain ⟨fl1,fl2⟩:=sD x.t hid (by show x.iD.length≤_;omega)
 have ht2:x.t.2.length=x.n:=hl
 obtain ⟨F,hF⟩:∃F,dK x.t=F:=⟨_,rfl⟩
 rw [hF] at fl1 fl2 ⊢
 apply sW
 obtain ⟨g3,w1,r1,k1⟩:=(St.start w).cz (P:=Tryz.prog) 303 (itC x)
 have h1:=(h.cR k1).same (Chg.drew [] w1)
 have pk:∀ {w' ps' rs' T},bU w0 X w' g num ps' rs' ((N++([]++ [.arr g3 303 (itC x)]))++T)→St w0 X w' [.arr g3 303 (itC x)]:=fun h=>h.rest.sub ((List.sublist_append_right N _).trans (List.sublist_append_left _ _))
 have pk0:∀ {w' ps' rs'},bU w0 X w' g num ps' rs' (N++([]++ [.arr g3 303 (itC x)]))→St w0 X w' [.arr g3 303 (itC x)]:=fun h=>h.rest.sub (List.sublist_append_right N _)
 have ldB:∀ {w'},St w0 X w' [.arr g3 303 (itC x)]→(Instr.loadAt 26 (.pointer (some ⟨g3,32,none⟩))).run Tryz.prog w'=.ok (.slice x.a x.n x.c) w':=fun h=>h.ldL (i:=0) (o:=32) rfl (MT _) rfl (DW x)
 obtain ⟨g2,w2,r2,k2⟩:=(St.start w1.drew).lit bbT [.slice (some ⟨g3,0,none⟩) 32 32,.slice x.a x.n x.c] (by simp [Value.oneCell']) (by simp)
 have h2:=h1.same k2.chg
 let S:World→Prop:=fun w'=>St w0 X w' [.arr g3 303 (itC x)]
 have c02:Chg [] w w2:=(k1.chg.trans (Chg.drew [] w1)).trans k2.chg
 refine ⟨g3,w1,r1,S,pk0 h1,by omega,by omega,_,_,_,fun w' hw=>ldB hw,_,_,_,w2,r2,S,fun _ h=>h,pk0 h2,(yq 2 _ 2 2 _ [x.id,x.iD] w2 (k2.rd (i:=0) rfl) (cH.cons ((pk0 h2).vu (i:=0) rfl) (cH.cons (hr.au c02) (cH.nil _))) (by simp;omega) (by simp)).mono ?_⟩
 rintro e w3 ⟨fa,fn,fc,rfl,hf⟩
 have eF:ko 2 [x.id,x.iD].flatten=F:=by rw [←hF];simp [dK,ItD.t]
 rw [eF] at hf
 have hfn:F.length=fn:=hf.2.1
 subst hfn
 have h3:bU w0 X w3 g num ps rs ((N++([]++ [.arr g3 303 (itC x)]))++ [.row 5 1 (.slice fa F.length fc) F.length (bv F)]):=h2.cR (hf.add (St.start w2))
 have h3D:=h3.same (Chg.drew [] w3)
 obtain ⟨f3,e31,e32,q3⟩:=h3D
 let S3:World→Prop:=fun w'=>St w0 X w' (lD g num f3++(f3.ps.map PcD.row++((N++([]++ [.arr g3 303 (itC x)]))++ [.row 5 1 (.slice fa F.length fc) F.length (bv F)])))
 have pk3:∀w',S3 w'→St w0 X w' [.arr g3 303 (itC x)]:=fun w' h=>pk ⟨f3,rfl,rfl,h⟩
 refine ⟨_,_,_,rfl,S,fun _ h=>h,pk h3,S3,q3,_,fun w' hw=>Sx.St.ldL hw (i:=0) (o:=1) rfl (inA _) rfl rfl,_,_,_,fun w' hw=>ldB (pk3 w' hw),(yx (h3.same (Chg.drew [] w3)) hp (by omega)).mono ?_⟩
 rintro e w4 ⟨rfl,h4⟩
 have h4D:=h4.same (Chg.drew [] w4)
 obtain ⟨f4,e41,e42,q4⟩:=h4D
 let S4:World→Prop:=fun w'=>St w0 X w' [.arr g 388 (mj num f4),.arr g3 303 (itC x)]
 have s4:∀ {w' r1 r2},St w0 X w' (.arr g 388 (mj num f4)::r1::r2::(f4.ps.map PcD.row++(N++([]++ [.arr g3 303 (itC x)]))))→S4 w':=fun h=>h.sub (List.Sublist.cons_cons _ (((List.sublist_append_right N _).trans (List.sublist_append_right _ _)).trans ((List.sublist_cons_self _ _).trans (List.sublist_cons_self _ _))))
 have pk4:∀w',S4 w'→St w0 X w' [.arr g3 303 (itC x)]:=fun w' h=>Sx.St.tail h
 have ldI:∀w',S4 w'→(Instr.loadAt 87 (.pointer (some ⟨g3,0,none⟩))).run Tryz.prog w'=.ok (.agg (bv x.id).toArray) w':=fun w' hw=>by
   have:=(pk4 w' hw).Kj (i:=0) (T:=87) (n:=32) rfl (Ea w') (zU w') (by simp)
   rw [itC,List.take_left' (by simp [hid])] at this
   exact this
 have eAt:IntKind.wrap .i64 ((IntKind.wrap .i64 ((((f3.ps.map PcD.l).flatten.length:Nat):Int)+((F.length:Nat):Int)))- ((x.n:Nat):Int))=(((ps.flatten.length+F.length:Nat):Int)- ((x.iD.length:Nat):Int)):=by
   have ei:IntKind.wrap .i64 (((ps.flatten.length:Nat):Int)+((F.length:Nat):Int))=((ps.flatten.length:Nat):Int)+((F.length:Nat):Int):=wrap_i64 (by omega) (by omega)
   rw [e31,ei,wrap_i64 (by omega) (by omega)];omega
 have hrs4:f4.rs.length<1000000:=by rw [e42];exact hrs
 have okA:OkI (((ps.flatten.length+F.length:Nat):Int)- ((x.iD.length:Nat):Int)):=⟨by omega,by omega⟩
 have okN:OkI ((x.iD.length:Nat):Int):=⟨by omega,by omega⟩
 have eC:=Lg hid hnum okA okN
 obtain ⟨r,hrr⟩:∃r,mkRef x.id num (((ps.flatten.length+F.length:Nat):Int)- ((x.iD.length:Nat):Int)) ((x.iD.length:Nat):Int)=r:=⟨_,rfl⟩
 rw [hrr] at eC ⊢
 obtain ⟨g5,w5,va,vc,w6,r5,r6,h6,h5⟩:=q4.sH (i:=2) (ty:=48) rfT rfl (aF r) (aJ r) (by decide) (dR r) (by omega) (by simp only [maxLen];omega)
 obtain ⟨w7,r7,h7⟩:=h6.stL (i:=0) (o:=3) (off:=3) (T:=48) (v:=.slice va (f4.rs.length+1) vc) rfl (OE _) rfl (by simp [mj]) rfl
 have h6:St w0 X w6 (.arr g 388 (mj num f4):: .row 26 1 (.slice f4.la f4.ps.length f4.lc) f4.ps.length (f4.ps.map PcD.v):: .row 100 35 (.slice va (f4.rs.length+1) vc) (f4.rs.length+1) (f4.rs.flatMap aF++aF r)::(f4.ps.map PcD.row++(N++([]++ [.arr g3 303 (itC x)])))):=h6
 refine ⟨rfl,S4,s4 q4,_,_,_,fun w' hw=>Sx.St.ldL hw (i:=0) (o:=3) rfl (L9 _) rfl rfl,_,ldI,_,fun w' hw=>Sx.St.ldL hw (i:=0) (o:=2) rfl (inA _) rfl rfl,_,_,_,fun w' hw=>ldB (pk4 w' hw),_,fun w' hw=>by rw [eAt,←hl];exact IA x.id num _ _ w' hid,_,_,_,w5,by rw [←eC];exact r5,S4,fun _ h=>h,s4 h5,_,_,_,w6,r6,S4,fun _ h=>h,s4 h6,w7,r7,rfl, { f4 with ra:=va,rc:=vc,rs:=f4.rs++ [r] },e41,by rw [←e42],?_⟩
 have h8:St w0 X w7 ([.arr g 388 [.slice f4.la f4.ps.length f4.lc,.int .i64 (((f4.ps.map PcD.l).flatten.length:Nat):Int),.int .i64 num,.slice va (f4.rs.length+1) vc],.row 26 1 (.slice f4.la f4.ps.length f4.lc) f4.ps.length (f4.ps.map PcD.v),.row 100 35 (.slice va (f4.rs.length+1) vc) (f4.rs.length+1) (f4.rs.flatMap aF++aF r)]++(f4.ps.map PcD.row++(N++([]++ [.arr g3 303 (itC x)])))):=h7
 have e2:lD g num { f4 with ra:=va,rc:=vc,rs:=f4.rs++ [r] } =[.arr g 388 [.slice f4.la f4.ps.length f4.lc,.int .i64 (((f4.ps.map PcD.l).flatten.length:Nat):Int),.int .i64 num,.slice va (f4.rs.length+1) vc],.row 26 1 (.slice f4.la f4.ps.length f4.lc) f4.ps.length (f4.ps.map PcD.v),.row 100 35 (.slice va (f4.rs.length+1) vc) (f4.rs.length+1) (f4.rs.flatMap aF++aF r)]:=by
   simp [lD,mj]
 rw [e2]
 exact h8.sub (List.Sublist.append_left (List.Sublist.append_left (List.sublist_append_left _ _) _) _)

theorem xQ (a:Option Addr) (n c:Nat) (l:List bw) (w:World) (hr:RdR w a n c l) (hb:n≤1000000):
   Calls Tryz.prog 260 #[.slice a n c] w fun e w'=>∃a' n' c',e=.returned (.slice a' n' c')∧aY w w' a' n' c' (eZ l):=by
 have hln:=hr.num (by decide)
 apply tH
 have h1:St w [] w [.row 5 1 (.slice none 0 0) 0 (bv (eZ (l.take 0)))]:=(St.start w).bZ _ _
 refine ⟨fun xa xn xc x w'=>∃i:Nat,x=(i:Int)∧i≤n∧St w [] w' [.row 5 1 (.slice xa xn xc) xn (bv (eZ (l.take i)))],fun _ _ _ x _=>n-x.toNat,⟨0,rfl,by omega,h1⟩,?_⟩
 rintro xa xn xc x w2 ⟨i,rfl,hi,h2⟩
 have hxn:xn=48*i:=by
   have e1:=(h2.rd (i:=0) rfl).bB
   rw [gP,List.length_take] at e1
   omega
 refine ⟨fun h=>?_,fun h=>?_⟩
 · have hi':i<n:=by simp at h;omega
   have ha:l[i]?=some l[i]:=List.getElem?_eq_getElem (by omega)
   obtain ⟨r,hrr⟩:∃r,l[i]=r:=⟨_,rfl⟩
   rw [hrr] at ha
   obtain ⟨b,o,hab,q⟩:=hr.ld (P:=Tryz.prog) (by decide) rfA rfS ha
   obtain ⟨g5,w3,r3,h3⟩:=h2.aD rfZ
   obtain ⟨w4,r4,h4⟩:=h3.stA (i:=1) (v:=aF r) rfl (rfS _) (aJ _) (aJ _) (dR _)
   have h4:St w [] w4 [.row 5 1 (.slice xa xn xc) xn (bv (eZ (l.take i))),.arr g5 100 (aF r)]:=h4
   obtain ⟨va,vc,w5,r5,h5⟩:=h4.bJ (i:=0) rfl (h4.NS (i:=1) rfl) (by omega)
   have h5:St w [] w5 [.row 5 1 (.slice va (xn+32) vc) (xn+32) (bv (eZ (l.take i)++r.id)),.arr g5 100 (aF r)]:=h5
   obtain ⟨_,fa,fl⟩:=uG h5 (i:=1) rfl
   refine ⟨b,o,hab,by omega,by omega,_,q w2 (hr.au h2.chg),g5,w3,r3,w4,r4,by omega,by omega,_,_,_,w5,r5,_,fa,(iT r.at_ w5).mono ?_⟩
   rintro e w6 ⟨a6,c6,rfl,hf6⟩
   have h6:=hf6.add h5
   have h6:St w [] w6 [.row 5 1 (.slice va (xn+32) vc) (xn+32) (bv (eZ (l.take i)++r.id)),.arr g5 100 (aF r),.row 5 1 (.slice a6 8 c6) 8 (bv (fu (n64 r.at_)))]:=h6
   obtain ⟨vd,ve,w7,r7,h7⟩:=h6.bJ (i:=0) rfl (h6.rd (i:=2) rfl) (by omega)
   have h7:St w [] w7 [.row 5 1 (.slice vd (xn+32+8) ve) (xn+32+8) (bv (eZ (l.take i)++r.id++fu (n64 r.at_))),.arr g5 100 (aF r),.row 5 1 (.slice a6 8 c6) 8 (bv (fu (n64 r.at_)))]:=h7
   obtain ⟨_,_,fl⟩:=uG h7 (i:=1) rfl
   refine ⟨_,_,_,rfl,_,_,_,w7,r7,_,fl,(iT r.len w7).mono ?_⟩
   rintro e w8 ⟨a8,c8,rfl,hf8⟩
   have h8:=hf8.add h7
   have h8:St w [] w8 [.row 5 1 (.slice vd (xn+32+8) ve) (xn+32+8) (bv (eZ (l.take i)++r.id++fu (n64 r.at_))),.arr g5 100 (aF r),.row 5 1 (.slice a6 8 c6) 8 (bv (fu (n64 r.at_))),.row 5 1 (.slice a8 8 c8) 8 (bv (fu (n64 r.len)))]:=h8
   obtain ⟨vf,vg,w9,r9,h9⟩:=h8.bJ (i:=0) rfl (h8.rd (i:=3) rfl) (by omega)
   refine ⟨_,_,_,rfl,_,_,_,w9,r9,⟨i+1,ay hi' (by omega),by omega,?_⟩,aB hi' (by omega)⟩
   have e2:eZ (l.take (i+1))=eZ (l.take i)++r.id++fu (n64 r.at_)++fu (n64 r.len):=by
     rw [List.take_add_one,ha];simp [eZ,GO,List.append_assoc]
   rw [e2]
   exact h9.sub (List.Sublist.cons_cons _ (List.nil_sublist _))
 · have hi':i=n:=by simp at h;omega
   rw [hi',List.take_of_length_le (by omega)] at h2
   exact ⟨_,_,_,rfl,h2.jm (i:=0) rfl⟩

end

end Go.Proofs.YtpmhjnhgpplmnaaGreatDoor
end

section
namespace Go.Proofs.YtpmhjnhgpplmnaaGreatDoor
open Go Sx
set_option maxRecDepth 8000

theorem bY.take {xs:List Itm} (h:bY xs) (i:Nat):bY (xs.take i):=by
 refine ⟨by have:=h.num;simp;omega,fun x hx=>h.idl x (List.mem_of_mem_take hx),?_⟩
 have e:(xs.take i++xs.drop i).map (fun x=>x.2.length)=xs.map (fun x=>x.2.length):=by rw [List.take_append_drop]
 have h2:=congrArg List.sum e
 rw [List.map_append,List.sum_append] at h2
 have:=h.sum
 omega
theorem xR:∀(xs:List Itm),(∀x∈xs,x.1.length=32∧x.2.length≤67108832)→(xs.map dK).flatten.length≤42*xs.length+(xs.map fun x=>x.2.length).sum
 | [],_=>by simp
 | x::r,h=>by
   obtain ⟨h1,h2⟩:=h x (by simp)
   have:=(sD x h1 h2).2
   have:=xR r fun y hy=>h y (by simp [hy])
   simp only [List.map_cons,List.flatten_cons,List.length_append,List.length_cons,List.sum_cons]
   omega
theorem bY.bytes {xs:List Itm} (h:bY xs):(xs.map dK).flatten.length≤16950000:=by
 have h1:=xR xs fun x hx=>⟨h.idl x hx,by have:=h.iD hx;omega⟩
 have h2:=h.num
 have h3:=h.sum
 omega
theorem KF (num:Int) (xs:List Itm):(iF num::xs.map dK).flatten.length=nA 16 xs:=by
 rw [su];simp

section
variable {w0 w w':World} {X:List Nat} {M N N' T:List Res} {g:Nat} {num:Int} {ps:List (List UInt8)} {rs:List bw}

theorem tJ (w:World):(isAgg 41).run Tryz.prog w=.ok true w:=Tryz.isAgg41 w
theorem qg (w:World):(sizeOf 41).run Tryz.prog w=.ok 96 w:=Tryz.sizeOf41 w

theorem MV (h:St w0 X w M) {i:Nat} {a:Option Addr} {c:Nat} {l:List bw} (hi:M[i]?=some (.row 100 35 (.slice a l.length c) l.length (l.flatMap aF))):RdR w a l.length c l:=⟨h.rd hi,fun x _=>aJ x⟩

set_option maxHeartbeats 1000000 in
theorem Dg (K:List UInt8) (hk:K.length=96) (hK:cI w) (h:bU w0 X w g num ps rs N) (hp:ps.length<1000000) (hrs:rs.length≤4096) (hs:ps.flatten.length≤1099511627776):
   Calls Tryz.prog 338 #[.pointer (some ⟨g,0,none⟩),.agg (bv K).toArray] w fun e w'=>e=.returned (.tuple #[])∧bU w0 X w' g num (ps++ [fR K num rs]) rs N:=by
 apply s9
 obtain ⟨g3,w1,r1,k1⟩:=(St.start w).cz (P:=Tryz.prog) 41 (bv K)
 have h1:=(h.cR k1).same (Chg.drew [] w1)
 obtain ⟨f,rfl,rfl,q1⟩:=h1
 have cD:Chg [] w w1.drew:=k1.chg.trans (Chg.drew [] w1)
 let Q:World→Prop:=fun w'=>St w0 X w' (.arr g 388 (mj num f):: .row 26 1 (.slice f.la f.ps.length f.lc) f.ps.length (f.ps.map PcD.v):: .row 100 35 (.slice f.ra f.rs.length f.rc) f.rs.length (f.rs.flatMap aF)::(f.ps.map PcD.row++(N++([]++ [.arr g3 41 (bv K)]))))
 let S:World→Prop:=fun w'=>∃v1 v2:Value,St w0 X w' [.arr g 388 [v1,v2,.int .i64 num,.slice f.ra f.rs.length f.rc],.arr g3 41 (bv K)]
 have q1:Q w1.drew:=q1
 have tl:∀ {L:List Res},(([.arr g3 41 (bv K)]:List Res)).Sublist (.row 26 1 (.slice f.la f.ps.length f.lc) f.ps.length (f.ps.map PcD.v):: .row 100 35 (.slice f.ra f.rs.length f.rc) f.rs.length (f.rs.flatMap aF)::(L++(N++([]++ [.arr g3 41 (bv K)])))):=(((List.sublist_append_right N _).trans (List.sublist_append_right _ _)).trans (List.sublist_cons_self _ _)).trans (List.sublist_cons_self _ _)
 have sk:∀w',Q w'→S w':=fun w' h=>⟨_,_,Sx.St.sub h (List.Sublist.cons_cons _ tl)⟩
 refine ⟨g3,w1,r1,S,sk _ q1,_,fun w' ⟨v1,v2,hw⟩=>hw.ldA (i:=1) (l:=bv K) rfl (tJ _) (qg _) (by simp [hk]),_,fun w' ⟨v1,v2,hw⟩=>hw.ldL (i:=0) (o:=2) rfl (inA _) rfl rfl,_,_,_,fun w' ⟨v1,v2,hw⟩=>hw.ldL (i:=0) (o:=3) rfl (L9 _) rfl rfl,(iT num _).mono ?_⟩
 rintro e w2 ⟨a2,c2,rfl,hf2⟩
 have q2:Q w2:=Sx.St.same q1 hf2.1
 refine ⟨_,_,_,rfl,S,fun _ h=>h,sk _ q2,(xQ _ _ _ f.rs w2 (MV q2 (i:=2) rfl) (by omega)).mono ?_⟩
 rintro e w3 ⟨a3,n3,c3,rfl,hf3⟩
 have q3:Q w3:=Sx.St.same q2 hf3.1
 have hn3:n3=48*f.rs.length:=by rw [←hf3.2.1,gP]
 refine ⟨_,_,_,rfl,S,fun _ h=>h,sk _ q3,(pI K 3 a2 8 c2 (fu (n64 num)) a3 n3 c3 (eZ f.rs) w3 hk (((hK.au cD).au hf2.1).au hf3.1) (hf2.rdB.au hf3.1) hf3.rdB (by omega)).mono ?_⟩
 rintro e w4 ⟨a4,n4,c4,rfl,hf4⟩
 have q4:Q w4:=Sx.St.same q3 hf4.1
 have hsl:=fQ K 3 (fu (n64 num)) (eZ f.rs) (by rw [gP];omega)
 rw [gP] at hsl
 obtain ⟨g5,w5,r5,k5⟩:=(St.start w4).lit bbT [.slice a4 n4 c4] (by simp [Value.oneCell']) (by simp)
 have q5:Q w5:=Sx.St.same q4 k5.chg
 refine ⟨_,_,_,rfl,S,fun _ h=>h,sk _ q4,_,_,_,w5,r5,S,fun _ h=>h,sk _ q5,(yq 3 _ 1 1 _ [dD K 3 (fu (n64 num)) (eZ f.rs)] w5 (k5.rd (i:=0) rfl) (cH.cons (hf4.rdB.au k5.chg) (cH.nil _)) (by simp;omega) (by simp)).mono ?_⟩
 rintro e w6 ⟨a6,n6,c6,rfl,hf6⟩
 have eF:ko 3 [dD K 3 (fu (n64 num)) (eZ f.rs)].flatten=fR K num f.rs:=by simp [fR]
 rw [eF] at hf6
 have hn6:(fR K num f.rs).length=n6:=hf6.2.1
 subst hn6
 have hfl:(fR K num f.rs).length≤67108864:=by
   have:=eY 9 (dD K 3 (fu (n64 num)) (eZ f.rs)).length (by omega) (by decide)
   simp only [fR,ko,List.length_cons,List.length_append]
   omega
 have q6:Q w6:=Sx.St.same q5 hf6.1
 have h6:St w0 X w6 (lD g num f++(f.ps.map PcD.row++((N++([]++ [.arr g3 41 (bv K)]))++ [.row 5 1 (.slice a6 (fR K num f.rs).length c6) (fR K num f.rs).length (bv (fR K num f.rs))]))):=by
   have q5':St w0 X w5 ((lD g num f++(f.ps.map PcD.row++(N++([]++ [.arr g3 41 (bv K)]))))++ []):=by rw [List.append_nil];exact q5
   have:=Sx.St.cq (N:=[]) q5' (hf6.add (St.start w5))
   simpa only [List.append_assoc,List.nil_append] using this
 refine ⟨_,_,_,rfl,S,fun _ h=>h,sk _ q6,(vi h6 (by simpa using hp) (by omega)).mono ?_⟩
 rintro e w7 ⟨rfl,la,lc,h7⟩
 have h7':St w0 X w7 (.arr g 388 (mj num { f with la:=la,lc:=lc,ps:=f.ps++ [⟨a6,c6,fR K num f.rs⟩] }):: .row 26 1 (.slice la (f.ps++ [(⟨a6,c6,fR K num f.rs⟩:PcD)]).length lc) (f.ps++ [(⟨a6,c6,fR K num f.rs⟩:PcD)]).length ((f.ps++ [(⟨a6,c6,fR K num f.rs⟩:PcD)]).map PcD.v):: .row 100 35 (.slice f.ra f.rs.length f.rc) f.rs.length (f.rs.flatMap aF)::((f.ps++ [(⟨a6,c6,fR K num f.rs⟩:PcD)]).map PcD.row++(N++([]++ [.arr g3 41 (bv K)])))):=h7
 refine ⟨rfl,S,fun _ h=>h,⟨_,_,h7'.sub (List.Sublist.cons_cons _ ?_)⟩,rfl, { f with la:=la,lc:=lc,ps:=f.ps++ [⟨a6,c6,fR K num f.rs⟩] },by simp,rfl,h7.sub (List.Sublist.append_left (List.Sublist.append_left (List.sublist_append_left _ _) _) _)⟩
 exact (((List.sublist_append_right N _).trans (List.sublist_append_right _ _)).trans (List.sublist_cons_self _ _)).trans (List.sublist_cons_self _ _)

end

end Go.Proofs.YtpmhjnhgpplmnaaGreatDoor
end

section
namespace Go.Proofs.YtpmhjnhgpplmnaaGreatDoor
open Go Sx
set_option maxRecDepth 8000

section
variable {w0 w w':World} {X:List Nat} {M N N' T:List Res} {g:Nat} {num:Int} {ps:List (List UInt8)} {rs:List bw}

theorem nX (num:Int) (w:World):Calls Tryz.prog 221 #[.int .i64 num] w fun e w'=>e=.returned (.bool (cQ num))∧w'=w:=by
 apply BC
 exact ⟨by simp [cQ,ge_iff_le],rfl⟩

theorem Je (K:List UInt8) (num:Int) (a:Option Addr) (n c:Nat) (w:World) (hg:cQ num=false):
   Calls Tryz.prog 290 #[.agg (bv K).toArray,.int .i64 num,.slice a n c] w fun e w'=>e=.returned (.tuple #[.pointer none,bG (some 28)])∧Chg [] w w':=by
 apply sY
 obtain ⟨g3,w1,r1,k1⟩:=(St.start w).cz (P:=Tryz.prog) 41 (bv K)
 refine ⟨g3,w1,r1,(nX num w1).mono ?_⟩
 rintro e w2 ⟨rfl,rfl⟩
 rw [hg]
 exact ⟨_,rfl,fun _=>⟨rfl,k1.chg⟩,fun h=>by cases h⟩

theorem J3 {a:Option Addr} {n c i:Nat} {l:List ItD} {x:ItD} (hr:ItR w a n c l) (hx:l[i]?=some x) (h:St w0 X w M):
   ∃b o g w1 w2,a=some ⟨b,o,none⟩∧(Instr.loadAt 303 (.pointer (some ⟨b,o+Int.toNat (i:Int)*33,none⟩))).run Tryz.prog w=.ok (.agg (itC x).toArray) w∧(Instr.alloc 303 true (.tuple #[])).run Tryz.prog w=.ok (.pointer (some ⟨g,0,none⟩)) w1∧
     (Instr.storeAt 303 (.pointer (some ⟨g,0,none⟩)) (.agg (itC x).toArray)).run Tryz.prog w1=.ok () w2∧St w0 X w2 (M++ [.arr g 303 (itC x)]):=by
 obtain ⟨b,o,hab,q⟩:=hr.rd.ld (P:=Tryz.prog) (by decide) itA itS hx
 obtain ⟨g,w1,r1,h1⟩:=h.aD itZ
 obtain ⟨w2,r2,h2⟩:=h1.stA (i:=M.length) (v:=itC x) List.getElem?_concat_length (itS _) (wI _) (wI _) (Lf _)
 refine ⟨b,o,g,w1,w2,hab,q w hr.rd,r1,r2,?_⟩
 rw [List.set_append_right _ _ (Nat.le_refl _),Nat.sub_self] at h2
 exact h2

set_option maxHeartbeats 1000000 in
theorem DF (K:List UInt8) (hk:K.length=96) (num:Int) (a:Option Addr) (n c:Nat) (l:List ItD) (w:World) (hK:cI w) (hg:cQ num=true) (hr:ItR w a n c l) (hs:bY (l.map ItD.t)):
   Calls Tryz.prog 290 #[.agg (bv K).toArray,.int .i64 num,.slice a n c] w fun e w'=>∃g,e=.returned (.tuple #[.pointer (some ⟨g,0,none⟩),bG none])∧bU w [] w' g num (dH K num (l.map ItD.t)) (aQ num 16 (l.map ItD.t)) []:=by
 have hln:=hr.rd.num (by decide)
 have hnum:=hs.num
 rw [List.length_map] at hnum
 have hgi:=dy.1 hg
 have hbl:∀x∈l,x.n≤16777216:=fun x hx=>by
   have h1:=(hr.Jv x hx).bB
   have h2:x.iD.length≤16777216:=hs.iD (List.mem_map_of_mem hx)
   omega
 apply sY
 obtain ⟨g3,w1,r1,k1⟩:=(St.start w).cz (P:=Tryz.prog) 41 (bv K)
 have k1:St w [] w1 [.arr g3 41 (bv K)]:=k1
 refine ⟨g3,w1,r1,(nX num w1).mono ?_⟩
 rintro e w2 ⟨rfl,rfl⟩
 rw [hg]
 refine ⟨_,rfl,fun h=>(by cases h),fun _=>⟨fun x w'=>∃i:Nat,x=(i:Int)∧i≤n∧St w [] w' [.arr g3 41 (bv K)],fun x _=>n-x.toNat,⟨0,rfl,by omega,k1⟩,?_⟩⟩
 rintro x w3 ⟨i,rfl,hi,k3⟩
 refine ⟨fun h=>?_,fun h=>?_⟩
 · have hi':i<n:=by simp at h;omega
   have hx:l[i]?=some l[i]:=List.getElem?_eq_getElem (by omega)
   obtain ⟨b,o,g9,w4,w5,hab,hld,r4,r5,k5⟩:=J3 (hr.au k3.chg) hx k3
   have hb:=hbl l[i] (List.getElem_mem _)
   refine ⟨b,o,hab,by omega,by omega,_,hld,g9,w4,r4,w5,r5,_,_,_,k5.ldL (i:=1) (o:=32) rfl (MT _) rfl (DW _),fun h=>?_,fun _=>⟨⟨i+1,ay hi' (by omega),by omega,k5.sub (List.sublist_append_left _ _)⟩,aB hi' (by omega)⟩⟩
   simp at h;omega
 refine (Bj num w3).mono ?_
 rintro e w6 ⟨g,rfl,h6⟩
 have k6:=k3.same h6.chg
 have h6:bU w [] w6 g num [iF num] [] [.arr g3 41 (bv K)]:=by
   obtain ⟨f,e1,e2,hS⟩:=h6
   have:=Sx.St.cq (M:=[.arr g3 41 (bv K)]) (N:=[]) k3 hS
   refine ⟨f,e1,e2,this.perm ?_⟩
   rw [List.append_nil (List.map PcD.row f.ps),←List.append_assoc (lD g num f)]
   exact List.perm_append_comm
 refine ⟨_,_,rfl,fun x w'=>∃i:Nat,x=(i:Int)∧i≤n∧bU w [] w' g num (iF num::((l.map ItD.t).take i).map dK) (aQ num 16 ((l.map ItD.t).take i)) [.arr g3 41 (bv K)],fun x _=>n-x.toNat,⟨0,rfl,by omega,by simpa [aQ] using h6⟩,?_⟩
 rintro x w7 ⟨i,rfl,hi,h7⟩
 have hst:=hs.take i
 have hby:=hst.bytes
 refine ⟨fun h=>?_,fun h=>?_⟩
 · have hi':i<n:=by simp at h;omega
   have hx:l[i]?=some l[i]:=List.getElem?_eq_getElem (by omega)
   obtain ⟨x,hxx⟩:∃x,l[i]=x:=⟨_,rfl⟩
   rw [hxx] at hx
   have hxm:=List.mem_of_getElem? hx
   obtain ⟨b,o,g9,w8,w9,hab,hld,r8,r9,k9⟩:=J3 (hr.au h7.chg) hx (St.start w7)
   have h9:=h7.cR k9
   have e16:(iF num::((l.map ItD.t).take i).map dK).flatten.length=nA 16 ((l.map ItD.t).take i):=KF num _
   have hlt:((l.map ItD.t).take i).length≤4096:=hst.num
   refine ⟨b,o,hab,by omega,by omega,_,hld,g9,w8,r8,w9,r9,_,k9.ldA (i:=0) (l:=itC x) rfl (itA _) (itS _) (wI _),(CE x h9 ((hr.Jv x hxm).au h9.chg) (by have:=hbl x hxm;omega) (by simp;omega) (by rw [fo];omega) (by rw [List.flatten_cons,List.length_append,jN];omega) ⟨by omega,by omega⟩).mono ?_⟩
   rintro e w10 ⟨rfl,h10⟩
   refine ⟨rfl,⟨i+1,ay hi' (by omega),by omega,?_⟩,aB hi' (by omega)⟩
   have et:(l.map ItD.t).take (i+1)=(l.map ItD.t).take i++ [x.t]:=by
     rw [List.take_add_one,List.getElem?_map,hx];rfl
   rw [et,xY,List.map_append]
   rw [e16] at h10
   exact h10.IL (List.sublist_append_left _ _)
 · have hi':i=n:=by simp at h;omega
   rw [hi',List.take_of_length_le (by simp;omega)] at h7 hby
   refine ⟨_,(h7.rest).ldA (i:=0) (l:=bv K) rfl (tJ _) (qg _) (by simp [hk]),(Dg K hk (hK.au h7.chg) h7 (by simp;omega) (by rw [fo];simp;omega) (by rw [List.flatten_cons,List.length_append,jN];omega)).mono ?_⟩
   rintro e w11 ⟨rfl,h11⟩
   exact ⟨rfl,g,rfl,h11.IL (List.nil_sublist _)⟩

theorem wR (K:List UInt8) (num:Int) (xs:List Itm):(dH K num xs).length=xs.length+2:=by simp [dH]
theorem uy (K:List UInt8) (num:Int) {xs:List Itm} (h:bY xs):(bf K num xs).length≤90000000:=by
 have h1:=h.bytes
 have h2:=h.num
 have hsl:=fQ K 3 (fu (n64 num)) (eZ (aQ num 16 xs)) (by rw [gP,fo];omega)
 rw [gP,fo] at hsl
 have hv:=eY 9 (dD K 3 (fu (n64 num)) (eZ (aQ num 16 xs))).length (by omega) (by decide)
 simp only [bf,dH,List.cons_append,List.flatten_cons,List.flatten_append,List.flatten_nil,List.append_nil,List.length_append,jN,fR,ko,List.length_cons]
 omega

end

end Go.Proofs.YtpmhjnhgpplmnaaGreatDoor
end

section
namespace Go.Proofs.YtpmhjnhgpplmnaaGreatDoor
open Go Go.Proofs.YtpmhjnhgpplmnaaGreatDoor.Sx
set_option maxRecDepth 100000
variable (w:World) (R:Ending→World→Prop)
theorem qp (a:Int) (h:∃(b:Int→Option Addr→Nat→Nat→World→Prop) (c:Int→Option Addr→Nat→Nat→World→Nat),b a none 0 0 w∧∀a d e f g,b a d e f g→Ifz (decide (a≥(0:Int))) (Ifz (IntKind.wrap .i64 (Int.tdiv a (128:Int))==(0:Int)) (Bsz 26 1 #[(0,.int .u8 (IntKind.wrap .u8 (Int.tmod a (128:Int))))] g (fun a b c g=>Apz 26 (.slice d e f) (.slice a b c) g fun a b c d=>R (.returned (.slice a b c)) d)) (Bsz 26 1 #[(0,.int .u8 (IntKind.wrap .u8 (IntKind.wrap .i64 (Int.tmod a (128:Int)+(128:Int)))))] g (fun h i j k=>Apz 26 (.slice d e f) (.slice h i j) k fun h i j k=>b (IntKind.wrap .i64 (Int.tdiv a (128:Int))) h i j k∧c (IntKind.wrap .i64 (Int.tdiv a (128:Int))) h i j k<c a d e f g))) (R (.returned (.slice none 0 0)) g)):Calls Tryz.prog 240 #[.int .i64 a] w R:=af 0x1d01757542100017575ec32d23d3d80032d2702131022e21029821d1d Tryz.func240 (by kernel_rfl) h
theorem oB (a:Option Addr) (b c:Nat) (h:∃(c:Option Addr→Nat→Nat→Int→World→Prop) (d:Option Addr→Nat→Nat→Int→World→Nat),c none 0 0 0 w∧∀e f g h i,c e f g h i→Ifz (decide (h<(b:Int))) (∃j k,a=some ⟨j,k,none⟩∧0≤h∧h<(b:Int)∧Llz 26 j (k+Int.toNat h*1) i fun j k l=>Ifz (decide ((k:Int)>67108864)) (R (.returned (.slice none 0 0)) i) (∃j:World→Prop,j i.drew∧∃k l,a=some ⟨k,l,none⟩∧0≤h∧h<(b:Int)∧∃m n,a=some ⟨m,n,none⟩∧0≤h∧h<(b:Int)∧∃a b o,(∀c,j c→LdQ 26 k (l+Int.toNat h*1) (.slice a b o) c)∧∃a k l,(∀b,j b→LdQ 26 m (n+Int.toNat h*1) (.slice a k l) b)∧Clz 240 #[.int .i64 (b:Int)] i.drew fun b m n o=>∃p:World→Prop,(∀a,p a→j a)∧p o∧Apz 26 (.slice e f g) (.slice b m n) o fun b j m n=>∃o:World→Prop,(∀a,o a→p a)∧o n∧Apz 26 (.slice b j m) (.slice a k l) n fun a b j k=>∃l:World→Prop,(∀a,l a→o a)∧l k∧c a b j (IntKind.wrap .i64 (h+1)) k∧d a b j (IntKind.wrap .i64 (h+1)) k<d e f g h i)) (R (.returned (.slice e f g)) i)):Calls Tryz.prog 163 #[.slice a b c] w R:=af 0x2d3b0001d1721c472747186471b305174351a1191822531210325001d30d738dc2820034d20722313c21981d21d1d Tryz.func163 (by kernel_rfl) h
end Go.Proofs.YtpmhjnhgpplmnaaGreatDoor
end

section
namespace Go.Proofs.YtpmhjnhgpplmnaaGreatDoor
open Go Sx
set_option maxRecDepth 8000

theorem HC (m:Nat) (w:World) (hm:m<9223372036854775808):Calls Tryz.prog 240 #[.int .i64 (m:Int)] w fun e w'=>∃a n c,e=.returned (.slice a n c)∧aY w w' a n c (gT m):=by
 have hlen:=eY 9 m (by simpa using hm) (by decide)
 apply qp
 refine ⟨fun x a n c w'=>∃(k:Nat) (pre:List UInt8),x=(k:Int)∧k<9223372036854775808∧gT m=pre++gT k∧pre.length=n∧St w [] w' [.row 5 1 (.slice a n c) n (bv pre)],fun x _ _ _ _=>x.toNat,
   ⟨m,[],rfl,hm,rfl,rfl,(St.start w).bZ _ _⟩,?_⟩
 rintro x a n c w1 ⟨k,pre,rfl,hk,he,hl,hS⟩
 have hn:n+(gT k).length≤9:=by have:=congrArg List.length he;simp at this;omega
 have hk1:=xk k
 have hd:IntKind.wrap .i64 (Int.tdiv (k:Int) 128)=((k / 128:Nat):Int):=by rw [show Int.tdiv (k:Int) 128=((k / 128:Nat):Int) by rw [Int.tdiv_eq_ediv_of_nonneg (by omega)];omega];exact sy _ (by omega)
 have hmo:Int.tmod (k:Int) 128=((k%128:Nat):Int):=by rw [Int.tmod_eq_emod_of_nonneg (by omega)];omega
 refine ⟨fun _=>?_,fun h=>by simp at h⟩
 rw [hd,hmo]
 refine ⟨fun h=>?_,fun h=>?_⟩
 · have hk0:k<128:=by simp at h;omega
   have hv:IntKind.wrap .u8 ((k%128:Nat):Int)=(k:Int):=by rw [wrap_u8];omega
   rw [hv]
   obtain ⟨g,w2,va,vc,w3,hr2,hr3,h3,_⟩:=hS.vI (i:=0) rfl (by omega) k (by omega)
   refine ⟨_,_,_,_,hr2,_,_,_,_,hr3,_,_,_,rfl,?_⟩
   rw [he,iP hk0]
   exact h3.jm (i:=0) rfl
 · have hk0:¬k<128:=by simp at h;omega
   have hv:IntKind.wrap .u8 (IntKind.wrap .i64 (((k%128:Nat):Int)+128))=((k%128+128:Nat):Int):=by
     rw [wrap_i64 (by omega) (by omega),wrap_u8];omega
   rw [hv]
   obtain ⟨g,w2,va,vc,w3,hr2,hr3,h3,_⟩:=hS.vI (i:=0) rfl (by omega) (k%128+128) (by omega)
   refine ⟨_,_,_,_,hr2,_,_,_,_,hr3,⟨k / 128,pre++ [UInt8.ofNat (k%128+128)],rfl,by omega,?_,by simp [hl],h3⟩,?_⟩
   · rw [he,yR hk0];simp
   · simp;omega

end Go.Proofs.YtpmhjnhgpplmnaaGreatDoor
end

section
namespace Go.Proofs.YtpmhjnhgpplmnaaGreatDoor
open Go Sx
set_option maxRecDepth 8000

theorem Fm (a:Option Addr) (n c:Nat) (vs:List Value) (ls:List (List UInt8)) (w:World) (hr:Rd w a n c 1 vs) (h2:cH w vs ls) (hb:ls.flatten.length≤67108864) (hn:ls.length≤1048576):
   Calls Tryz.prog 163 #[.slice a n c] w fun e w'=>∃a' n' c',e=.returned (.slice a' n' c')∧aY w w' a' n' c' (b9 ls):=by
 have hln:ls.length=n:=by have:=hr.len;have:=h2.len;omega
 apply oB
 refine ⟨fun xa xn xc x w'=>∃i:Nat,x=(i:Int)∧i≤n∧xn=(b9 (ls.take i)).length∧St w [] w' [.row 5 1 (.slice xa xn xc) xn (bv (b9 (ls.take i)))],fun _ _ _ x _=>n-x.toNat,
   ⟨0,rfl,by omega,by simp [b9],(St.start w).bZ _ _⟩,?_⟩
 rintro xa xn xc x w1 ⟨i,rfl,hi,hxn,hS⟩
 have hpb:=vF hb i
 refine ⟨fun h=>?_,fun h=>?_⟩
 · have hi':i<n:=by simp at h;omega
   obtain ⟨b,o,a',n',c',ha,hv,hrd,hld⟩:=ixS hr.cells h2 (i:=i) (by omega)
   have hl':=hrd.bB
   have hle:=mG (ls:=ls) (i:=i) (by omega)
   refine ⟨b,o,ha,by omega,by omega,_,_,_,hld w1 (hr.cells.au hS.chg),fun h=>?_,fun _=>?_⟩
   · simp at h;omega
   · have h9:=eY 9 n' (by simp;omega) (by decide)
     have hSd:=hS.drew
     refine ⟨fun w'=>Chg [] w w',hSd.chg,b,o,ha,by omega,by omega,b,o,ha,by omega,by omega,a',n',c',fun w' h=>hld w' (hr.cells.au h),a',n',c',fun w' h=>hld w' (hr.cells.au h),cG (HC n' w1.drew (by omega)) ?_⟩
     rintro e w2 ⟨a2,n2,c2,rfl,hf2⟩
     have hS2:=hf2.add hSd
     have hn2:=hf2.2.1
     obtain ⟨va,vc,w3,hr3,hS3⟩:=hS2.bJ (i:=0) rfl (hS2.rd (i:=1) rfl) (by omega)
     obtain ⟨vb,vd,w4,hr4,hS4⟩:=hS3.bJ (i:=0) rfl (hS3.rd1 hrd) (by omega)
     have hpt:=wK (ls:=ls) (i:=i) (by omega)
     rw [hl'] at hpt
     refine ⟨_,_,_,rfl,fun w'=>Chg [] w w',fun _ h=>h,hS2.chg,_,_,_,_,hr3,fun w'=>Chg [] w w',fun _ h=>h,hS3.chg,_,_,_,_,hr4,fun w'=>Chg [] w w',fun _ h=>h,hS4.chg,⟨i+1,?_,by omega,?_,?_⟩,?_⟩
     · rw [wrap_i64 (by omega) (by omega)];rfl
     · rw [hpt];simp only [List.length_append];omega
     · rw [hpt];exact St.pop (M:=[_]) hS4
     · show n- (IntKind.wrap .i64 ((i:Int)+1)).toNat<n- ((i:Int)).toNat
       rw [wrap_i64 (by omega) (by omega)];omega
 · have hi':i=n:=by simp at h;omega
   rw [hi',←hln,List.take_length] at hS
   exact ⟨_,_,_,rfl,hS.jm (i:=0) rfl⟩

end Go.Proofs.YtpmhjnhgpplmnaaGreatDoor
end

section
namespace Go.Proofs.YtpmhjnhgpplmnaaGreatDoor
open Go Sx
set_option maxRecDepth 8000

end Go.Proofs.YtpmhjnhgpplmnaaGreatDoor
end

section
namespace Go.Proofs.YtpmhjnhgpplmnaaGreatDoor
open Go Sx
set_option maxRecDepth 8000

structure FrD where
 k:UInt8
 a:Option Addr
 c:Nat
 body:List UInt8
 at_:Nat
abbrev Frm:=UInt8×List UInt8×Nat
def FrD.t (x:FrD):Frm:=(x.k,x.body,x.at_)
def FrD.v (x:FrD):Value:=.slice x.a x.body.length x.c
section
variable {w0 w w':World} {X:List Nat} {M N N' T:List Res}

theorem EG {a a':Option Addr} {n c k:Nat} {l:List UInt8} (hr:RdB w a n c l) (hs:lT 1 a k c a') (hk:k≤n):RdB w a' (n-k) (c-k) (l.drop k):=by
 have hl:=hr.bB
 have h1:=Rd.sub hr hs (hh:=n) hk (Nat.le_refl _) hr.le (Nat.le_refl _)
 have e2:((bv l).drop (k*1)).take ((n-k)*1)=bv (l.drop k):=by
   rw [Nat.mul_one,Nat.mul_one,List.take_of_length_le (by simp;omega),fB]
 rw [e2] at h1
 exact h1

end

end Go.Proofs.YtpmhjnhgpplmnaaGreatDoor
end

section
namespace Go.Proofs.YtpmhjnhgpplmnaaGreatDoor
open Go Go.Proofs.YtpmhjnhgpplmnaaGreatDoor.Sx
set_option maxRecDepth 100000
variable (w:World) (R:Ending→World→Prop)
theorem lW (a:Option Addr) (b c:Nat) (d:Option Addr) (e f:Nat) (g:ByteArray) (h:Alz 39 w fun h i=>Buz 39 #[] i fun j=>Alz 39 i fun i k=>Stz 39 i 0 (.agg j) k fun j=>Cvz 9 26 (.string g) j fun g j k l=>Calls Tryz.prog 195 #[.slice a b c,.slice d e f,.slice g j k,.int .i64 32] l fun a b=>∃c d e f,a=.returned (.tuple #[.slice c d e,.int .i64 f])∧∃(a:Int→World→Prop) (e:Int→World→Nat),a 0 b∧∀b f,a b f→Ifz (decide (b<(32:Int))) (∃g h,c=some ⟨g,h,none⟩∧0≤b∧b<(d:Int)∧Lkz .u8 5 g (h+Int.toNat b*1) f fun c=>0≤b∧b<(32:Int)∧Stz 5 i (0+Int.toNat b*1) (.int .u8 c) f fun c=>a (IntKind.wrap .i64 (b+1)) c∧e (IntKind.wrap .i64 (b+1)) c<e b f) (Laz 39 i 0 f (fun a=>Stz 39 h 0 (.agg a) f fun a=>∃b,(loadVar 39 ⟨h,0,none⟩).run Tryz.prog a=.ok b a∧R (.returned b) a))):Calls Tryz.prog 97 #[.slice a b c,.slice d e f,.string g] w R:=af 0x683c3b068138e1820032d20111a11a2c11a2981d2052072475ec06783c07c Tryz.func97 (by kernel_rfl) h
theorem kH (a:Array Value) (h:Bxz 39 (.agg a) w fun a b=>Alz 41 b fun b c=>Bsz 26 7 #[(0,.int .u8 97),(1,.int .u8 109),(2,.int .u8 112),(3,.int .u8 104),(4,.int .u8 111),(5,.int .u8 114),(6,.int .u8 97)] c fun c d e f=>Cvz 26 26 (.slice c d e) f fun c d e f=>∃g:World→Prop,g f.drew∧0≤(32:Int)∧(32:Int)≤32∧0≤(32:Int)∧(32:Int)≤32∧0≤(32:Int)∧(32:Int)≤32∧Caz 97 #[.slice c d e,.slice (some ⟨a,0,none⟩) 32 32,.string (ByteArray.mk #[99,105,112,104,101,114])] f.drew fun f h=>∃i:World→Prop,(∀a,i a→g a)∧i h∧Caz 97 #[.slice c d e,.slice (some ⟨a,0,none⟩) 32 32,.string (ByteArray.mk #[109,97,99])] h fun g h=>∃j:World→Prop,(∀a,j a→i a)∧j h∧Caz 97 #[.slice c d e,.slice (some ⟨a,0,none⟩) 32 32,.string (ByteArray.mk #[110,97,109,101])] h fun a c=>∃d:World→Prop,(∀a,d a→j a)∧d c∧∃e,(∀b,d b→(Instr.build 41 #[(0,.agg f),(1,.agg g),(2,.agg a)]).run Tryz.prog b=.ok (.agg e) b)∧Stz 41 b 0 (.agg e) c fun a=>∃c,(loadVar 41 ⟨b,0,none⟩).run Tryz.prog a=.ok c a∧R (.returned c) a):Calls Tryz.prog 33 #[.agg a] w R:=af 0x11a1041a48193818184818548182467106164103161100152017575c077c Tryz.func33 (by kernel_rfl) h
theorem rC (a:Array Value) (b:Option Addr) (c d:Nat) (h:Bxz 41 (.agg a) w fun a e=>Alz 87 e fun e f=>0≤(32:Int)∧(32:Int)≤32∧Bsz 26 5 #[(0,.int .u8 99),(1,.int .u8 104),(2,.int .u8 117),(3,.int .u8 110),(4,.int .u8 107)] f.drew fun f g h i=>Cvz 26 26 (.slice f g h) i fun f g h i=>Bsz 24 2 #[(0,.slice f g h),(1,.slice b c d)] i fun b c d f=>Clz 163 #[.slice b c d] f fun b c d f=>Bsz 24 1 #[(0,.slice b c d)] f fun b c d f=>Caz 162 #[.slice (some ⟨a,64,none⟩) 32 32,.slice b c d] f fun a b=>Stz 87 e 0 (.agg a) b fun a=>∃b,(loadVar 87 ⟨e,0,none⟩).run Tryz.prog a=.ok b a∧R (.returned b) a):Calls Tryz.prog 69 #[.agg a,.slice b c d] w R:=af 0x1a010419481818472747186472547234722404161100142077c Tryz.func69 (by kernel_rfl) h
end Go.Proofs.YtpmhjnhgpplmnaaGreatDoor
end

section
namespace Go.Proofs.YtpmhjnhgpplmnaaGreatDoor
open Go Sx
set_option maxRecDepth 8000

theorem OS (w:World):(Instr.build 39 #[]).run Tryz.prog w=.ok (.agg (bv (List.replicate 32 0)).toArray) w:=by
 have:=fP (P:=Tryz.prog) (w:=w) (T:=39) (eD w) Tryz.underlying39 (sB1 w) [] (by simp) (by simp)
 simpa using this

theorem zQ (a0:Option Addr) (n0 c0:Nat) (salt:List UInt8) (a1:Option Addr) (n1 c1:Nat) (secret:List UInt8) (s:ByteArray) (info:List UInt8) (w:World) (hs:s=⟨info.toArray⟩) (hr0:RdB w a0 n0 c0 salt) (hr1:RdB w a1 n1 c1 secret) (hb:n0+n1+info.length≤1099511627776):
   Calls Tryz.prog 97 #[.slice a0 n0 c0,.slice a1 n1 c1,.string s] w fun e w'=>e=.returned (.agg (bv (ji salt secret info)).toArray)∧Chg [] w w':=by
 apply lW
 obtain ⟨D,hD⟩:∃D,ji salt secret info=D:=⟨_,rfl⟩
 have hDl:D.length=32:=by rw [←hD];simp
 obtain ⟨g6,w1,r1,h1⟩:=(St.start w).aD eD
 obtain ⟨g7,w2,r2,h2⟩:=h1.aD eD
 obtain ⟨w3,r3,h3⟩:=h2.stA (i:=1) (v:=bv (dJ D (List.replicate 32 0) 0)) rfl (cL _) (by simp) (by rw [gL];simp) (aO _)
 rw [gL] at r3
 obtain ⟨g4,c4,w4,r4,hc4,hr4,_⟩:=wD s info hs w3
 have h4:=h3.same hc4
 refine ⟨g6,w1,r1,_,OS _,g7,w2,r2,w3,r3,_,_,_,_,r4,(zm a0 n0 c0 salt a1 n1 c1 secret _ info.length c4 info 32 w4 (h4.rd1 hr0) (h4.rd1 hr1) hr4 hb).mono ?_⟩
 rintro e w5 (⟨hx,_⟩ | ⟨_,_,a,n,c,rfl,hc5,hr5,hf5⟩)
 · omega
 have hd:iz salt secret info (Int.toNat 32)=ji salt secret info:=rfl
 rw [hd,hD] at hr5
 rw [hD]
 have hn:n=32:=by rw [←hr5.bB,hDl]
 subst hn
 have h5:=h4.same hc5
 have hg7:g7<w4.heap.size:=Res.lt (h4.holds 1 _ rfl) g7 (by simp [Res.fp])
 refine ⟨_,_,_,_,rfl,fun x w'=>∃i:Nat,x=(i:Int)∧i≤32∧RdB w' a 32 c D∧St w [] w' [.arr g6 39 (bv (List.replicate 32 0)),.arr g7 39 (bv (dJ D (List.replicate 32 0) i))],fun x _=>32-x.toNat,⟨0,rfl,by omega,hr5,h5⟩,?_⟩
 rintro x w6 ⟨i,rfl,hi,hr6,h6⟩
 refine ⟨fun h=>?_,fun h=>?_⟩
 · have hi':i<32:=by simp at h;omega
   refine ix0 hr6.cells hDl i (by omega) fun bl o ha q=>⟨bl,o,ha,by omega,by omega,_,q w6 hr6.cells,by omega,by omega,?_⟩
   have hbi:D[i]?=some (D.getD i 0):=by
     rw [List.getD,List.getElem?_eq_getElem (by omega)]
     rfl
   have hml:(dJ D (List.replicate 32 (0:UInt8)) i).length=32:=by simp [dJ];omega
   have h6s:=h6.self
   obtain ⟨w7,r7,h7⟩:=h6.stB (i:=1) (o:=i) (T:=5) (b:=D.getD i 0) rfl (sB1 _) (show 0+Int.toNat (i:Int)*1=i by omega) (by omega)
   obtain ⟨w7',r7',h7'⟩:=(St.GH (h6.holds 1 _ rfl)).stB (i:=0) (o:=i) (T:=5) (l:=dJ D (List.replicate 32 (0:UInt8)) i) (b:=D.getD i 0) rfl (sB1 _) (show 0+Int.toNat (i:Int)*1=i by omega) (by omega)
   have ew:w7'=w7:=by
     have:=r7'.symm.trans r7
     simp only [Result.ok.injEq,true_and] at this
     exact this
   rw [kE (by rw [hDl,List.length_replicate]) hbi] at h7
   refine ⟨w7,r7,⟨i+1,ay hi' (by omega),by omega,?_,h7⟩,aB hi' (by omega)⟩
   rw [ew] at h7'
   refine hr6.keep h7'.chg fun ad e=>?_
   have:=hf5 ad e
   simp
   omega
 · have hi':i=32:=by simp at h;omega
   have f1:dJ D (List.replicate 32 (0:UInt8)) i=D:=by
     have:=kT (x:=D) (l:=List.replicate 32 (0:UInt8)) (by rw [hDl,List.length_replicate])
     rw [List.length_replicate] at this;rw [hi',this]
   rw [f1] at h6
   obtain ⟨w8,r8,h8⟩:=h6.stA (i:=0) (v:=bv D) rfl (cL _) (by simp) (by simp [hDl]) (aO _)
   exact ⟨_,h6.ldA (i:=1) rfl (jY _) (cL _) (by simp [hDl]),w8,r8,_,h8.bQ (i:=0) (l:=bv D) rfl (jY _) (cL _) (by simp [hDl]),rfl,h8.chg⟩

theorem uF (m:List UInt8) (w:World) (hm:m.length=32):
   Calls Tryz.prog 33 #[.agg (bv m).toArray] w fun e w'=>e=.returned (.agg (bv (bD m)).toArray)∧Chg [] w w':=by
 apply kH
 obtain ⟨g1,w1,r1,h1⟩:=(St.start w).cz 39 (bv m)
 obtain ⟨g2,w2,r2,h2⟩:=h1.aD kyZ
 obtain ⟨g3,w3,w4,r3,r4,c4,hr4⟩:=pM nW (by decide) w2
 have h4:=(h2.same c4).drew
 have hd:=Chg.drew [] w4
 have dd:∀w' (i:List UInt8) (s:ByteArray),s=⟨i.toArray⟩→i.length≤1000→Chg [] w4.drew w'→Calls Tryz.prog 97 #[.slice (some ⟨g3,0,none⟩) 7 7,.slice (some ⟨g1,0,none⟩) 32 32,.string s] w' fun e w''=>e=.returned (.agg (bv (ji nW m i)).toArray)∧Chg [] w' w'':=fun w' i s hs hi hc=>
   zQ _ 7 7 nW _ 32 32 m s i w' hs (hr4.au (hd.trans hc)) ((h4.same hc).rdA (i:=0) rfl (by simp [hm])) (by omega)
 refine ⟨g1,w1,r1,g2,w2,r2,_,_,_,_,r3,_,_,_,_,r4,fun w'=>Chg [] w4.drew w',Chg.refl _ _,by omega,by omega,by omega,by omega,by omega,by omega,(dd _ [99,105,112,104,101,114] _ rfl (by decide) (Chg.refl _ _)).mono ?_⟩
 rintro e w5 ⟨rfl,c5⟩
 refine ⟨_,rfl,fun w'=>Chg [] w4.drew w',fun _ h=>h,c5,(dd _ [109,97,99] _ rfl (by decide) c5).mono ?_⟩
 rintro e w6 ⟨rfl,c6⟩
 have d6:=c5.trans c6
 refine ⟨_,rfl,fun w'=>Chg [] w4.drew w',fun _ h=>h,d6,(dd _ [110,97,109,101] _ rfl (by decide) d6).mono ?_⟩
 rintro e w7 ⟨rfl,c7⟩
 have d7:=d6.trans c7
 obtain ⟨w8,r8,h8⟩:=(h4.same d7).stA (i:=1) (v:=bv (bD m)) rfl (kyS _) (by simp) (by simp) (aO _)
 exact ⟨_,rfl,fun w'=>Chg [] w4.drew w',fun _ h=>h,d7,_,fun w' _=>xB (jS _ _ _) (jS _ _ _) (jS _ _ _) w',w8,r8,_,h8.bQ (i:=1) (l:=bv (bD m)) rfl (kyA _) (kyS _) (by simp),rfl,h8.chg⟩

theorem sr (K:List UInt8) (a:Option Addr) (n c:Nat) (plain:List UInt8) (w:World) (hk:K.length=96) (hr:RdB w a n c plain) (hb:n≤67108000):
   Calls Tryz.prog 69 #[.agg (bv K).toArray,.slice a n c] w fun e w'=>e=.returned (.agg (bv (idF K plain)).toArray)∧Chg [] w w':=by
 have e2:=hr.bB
 apply rC
 obtain ⟨g1,w1,r1,h1⟩:=(St.start w).cz 41 (bv K)
 obtain ⟨g2,w2,r2,h2⟩:=h1.aD idZ
 obtain ⟨g3,w3,w4,r3,r4,c4,q4⟩:=pM [99,104,117,110,107] (by decide) w2.drew
 have h4:=h2.drew.same c4
 obtain ⟨g5,w5,r5,c5',q5,_⟩:=xw bbT [.slice (some ⟨g3,0,none⟩) 5 5,.slice a n c] (by simp [Value.oneCell']) (by simp) w4
 have h5:=h4.same c5'
 refine ⟨g1,w1,r1,g2,w2,r2,by omega,by omega,_,_,_,_,r3,_,_,_,_,r4,_,_,_,_,r5,(Fm _ 2 2 _ [[99,104,117,110,107],plain] w5 q5 (oO (q4.au c5') (h5.rd1 hr)) (by simp;omega) (by simp)).mono ?_⟩
 rintro e w6 ⟨a6,n6,c6,rfl,hf6⟩
 have h6:=h5.same hf6.1
 obtain ⟨g7,w7,r7,c7',q7,_⟩:=xw bbT [.slice a6 n6 c6] (by simp [Value.oneCell']) (by simp) w6
 have h7:=h6.same c7'
 have hpl:(b9 [[99,104,117,110,107],plain]).length≤67109864:=by
   have:=jQ [[99,104,117,110,107],plain] (by simp;omega)
   simp at this ⊢
   omega
 refine ⟨_,_,_,rfl,_,_,_,_,r7,(ue _ 32 32 (lE K) _ 1 1 _ [b9 [[99,104,117,110,107],plain]] w7 (wB h7 (i:=0) rfl hk).2 (by omega) q7 (eu (hf6.rdB.au c7')) (by rw [List.flatten_cons,List.flatten_nil,List.append_nil];omega) (by decide)).mono ?_⟩
 rintro e w8 ⟨rfl,c8⟩
 have e1: [b9 [[99,104,117,110,107],plain]].flatten=b9 [[99,104,117,110,107],plain]:=by rw [List.flatten_cons,List.flatten_nil,List.append_nil]
 rw [e1]
 obtain ⟨w9,r9,h9⟩:=(h7.same c8).stA (i:=1) (v:=bv (idF K plain)) rfl (idS _) (by simp) (by simp [idF]) (aO _)
 exact ⟨_,rfl,w9,r9,_,h9.bQ (i:=1) (l:=bv (idF K plain)) rfl (idA _) (idS _) (by simp [idF]),rfl,h9.chg⟩

end Go.Proofs.YtpmhjnhgpplmnaaGreatDoor
end

section
namespace Go.Proofs.YtpmhjnhgpplmnaaGreatDoor
open Go Sx
set_option maxRecDepth 8000

section
variable {w0 w w':World} {X:List Nat} {M N N' T:List Res}

def yY (b:List UInt8) (r:bw):Bool:=decide (0≤r.at_)&&decide (0≤r.len)&&decide (r.at_≤(b.length:Int))&&decide (r.len≤(b.length:Int)-r.at_)
def Ky (b:List UInt8) (r:bw):List UInt8:=if yY b r then (b.drop r.at_.toNat).take r.len.toNat else []

end

end Go.Proofs.YtpmhjnhgpplmnaaGreatDoor
end

section
namespace Go.Proofs.YtpmhjnhgpplmnaaGreatDoor
open Go.Shelf
def B0:Go.Shelf.Ren:=⟨fun | 171=>95 | 243=>194 | 246=>268 | 283=>319 | 284=>320 | 285=>321 | 286=>322 | 129=>274 | 317=>357 | 318=>358 | 319=>359 | 320=>360 | 337=>374 | 338=>375 | n=>n,fun | 3=>3 | 9=>9 | 2=>2 | 4=>4 | 171=>417 | 0=>0 | 53=>42 | 37=>26 | 5=>5 | 173=>419 | 212=>459 | 51=>370 | 20=>20 | 213=>460 | 46=>299 | 232=>39 | 233=>368 | n=>n,fun | 17=>3 | 18=>4 | 19=>5 | n=>n⟩
theorem Kl:Go.Proofs.LaysM.n171 Tryz.prog B0:= {
 mixed:=by kernel_rfl
 f129:=Tryz.func274.trans (congrArg some (by kernel_rfl))
 f171:=Tryz.func95.trans (congrArg some (by kernel_rfl))
 f243:=Tryz.func194.trans (congrArg some (by kernel_rfl))
 f246:=Tryz.func268.trans (congrArg some (by kernel_rfl))
 f283:=Tryz.func319.trans (congrArg some (by kernel_rfl))
 f284:=Tryz.func320.trans (congrArg some (by kernel_rfl))
 f285:=Tryz.func321.trans (congrArg some (by kernel_rfl))
 f286:=Tryz.func322.trans (congrArg some (by kernel_rfl))
 f317:=Tryz.func357.trans (congrArg some (by kernel_rfl))
 f318:=Tryz.func358.trans (congrArg some (by kernel_rfl))
 f319:=Tryz.func359.trans (congrArg some (by kernel_rfl))
 f320:=Tryz.func360.trans (congrArg some (by kernel_rfl))
 f337:=Tryz.func374.trans (congrArg some (by kernel_rfl))
 f338:=Tryz.func375.trans (congrArg some (by kernel_rfl))
 t0:=Tryz.underlying0
 a0:=Tryz.isAgg0
 z0:=Tryz.sizeOf0
 v0:=Tryz.zeroValue0
 t2:=Tryz.underlying2
 a2:=Tryz.isAgg2
 z2:=Tryz.sizeOf2
 v2:=Tryz.zeroValue2
 t3:=Tryz.underlying3
 a3:=Tryz.isAgg3
 z3:=Tryz.sizeOf3
 v3:=Tryz.zeroValue3
 t4:=Tryz.underlying4
 a4:=Tryz.isAgg4
 z4:=Tryz.sizeOf4
 v4:=Tryz.zeroValue4
 t5:=Tryz.underlying5
 a5:=Tryz.isAgg5
 z5:=Tryz.sizeOf5
 v5:=Tryz.zeroValue5
 t9:=Tryz.underlying9
 a9:=Tryz.isAgg9
 z9:=Tryz.sizeOf9
 v9:=Tryz.zeroValue9
 t20:=Tryz.underlying20
 a20:=Tryz.isAgg20
 z20:=Tryz.sizeOf20
 v20:=Tryz.zeroValue20
 t37:=Tryz.underlying26
 a37:=Tryz.isAgg26
 z37:=Tryz.sizeOf26
 v37:=Tryz.zeroValue26
 t46:=Tryz.underlying299
 a46:=Tryz.isAgg299
 z46:=Tryz.sizeOf299
 v46:=Tryz.zeroValue299
 t51:=Tryz.underlying370
 a51:=Tryz.isAgg370
 z51:=Tryz.sizeOf370
 v51:=Tryz.zeroValue370
 t53:=Tryz.underlying42
 a53:=Tryz.isAgg42
 z53:=Tryz.sizeOf42
 v53:=Tryz.zeroValue42
 t171:=Tryz.underlying417
 a171:=Tryz.isAgg417
 z171:=Tryz.sizeOf417
 v171:=Tryz.zeroValue417
 t173:=Tryz.underlying419
 a173:=Tryz.isAgg419
 z173:=Tryz.sizeOf419
 v173:=Tryz.zeroValue419
 t212:=Tryz.underlying459
 a212:=Tryz.isAgg459
 z212:=Tryz.sizeOf459
 v212:=Tryz.zeroValue459
 t213:=Tryz.underlying460
 a213:=Tryz.isAgg460
 z213:=Tryz.sizeOf460
 t232:=Tryz.underlying39
 a232:=Tryz.isAgg39
 z232:=Tryz.sizeOf39
 v232:=Tryz.zeroValue39
 t233:=Tryz.underlying368
 a233:=Tryz.isAgg368
 z233:=Tryz.sizeOf368
 v233:=Tryz.zeroValue368
 g17:=by kernel_rfl
 g18:=by kernel_rfl
 g19:=by kernel_rfl
 i0:=by kernel_rfl
 i2:=by kernel_rfl
 i3:=by kernel_rfl
 i4:=by kernel_rfl
 i5:=by kernel_rfl
 i9:=by kernel_rfl
 i20:=by kernel_rfl
 i37:=by kernel_rfl
 i46:=by kernel_rfl
 i51:=by kernel_rfl
 i53:=by kernel_rfl
 i171:=by kernel_rfl
 i173:=by kernel_rfl
 i212:=by kernel_rfl
 i232:=by kernel_rfl
 i233:=by kernel_rfl
 m17:=by kernel_rfl
 m18:=by kernel_rfl
 m19:=by kernel_rfl }
end Go.Proofs.YtpmhjnhgpplmnaaGreatDoor
end

section
namespace Go.Proofs.YtpmhjnhgpplmnaaGreatDoor

def lexLt:List UInt8→List UInt8→Bool
 | [],[]=>false
 | [],_::_=>true
 | _::_,[]=>false
 | a::l,b::m=>if a.toNat<b.toNat then true else if b.toNat<a.toNat then false else lexLt l m
theorem lex_irrefl:∀l,lexLt l l=false
 | []=>rfl
 | a::l=>by simp [lexLt,lex_irrefl l]
theorem lex_trans:∀l m k,lexLt l m=true→lexLt m k=true→lexLt l k=true
 | [],[],_,h,_=>by simp [lexLt] at h
 | [],_::_,[],_,h=>by simp [lexLt] at h
 | [],_::_,_::_,_,_=>rfl
 | _::_,[],_,h,_=>by simp [lexLt] at h
 | _::_,_::_,[],_,h=>by simp [lexLt] at h
 | a::l,b::m,c::k,h1,h2=>by
   simp only [lexLt] at h1 h2 ⊢
   split at h1
   · split at h2
     · rw [if_pos (by omega)]
     · split at h2
       · cases h2
       · rw [if_pos (by omega)]
   · split at h1
     · cases h1
     · split at h2
       · rw [if_pos (by omega)]
       · split at h2
         · cases h2
         · rw [if_neg (by omega),if_neg (by omega)]
           exact lex_trans l m k h1 h2
theorem tA:∀l m,lexLt l m=false→lexLt m l=false→l=m
 | [],[],_,_=>rfl
 | [],_::_,h,_=>by simp [lexLt] at h
 | _::_,[],_,h=>by simp [lexLt] at h
 | a::l,b::m,h1,h2=>by
   simp only [lexLt] at h1 h2
   split at h1
   · cases h1
   · split at h2
     · cases h2
     · rename_i n1 n2
       rw [if_neg (by omega)] at h1
       have e:a=b:=UInt8.toNat_inj.1 (by omega)
       rw [e,tA l m h1 h2]
theorem lex_asymm {l m:List UInt8} (h:lexLt l m=true):lexLt m l=false:=by
 cases h2:lexLt m l with
 | false=>rfl
 | true=>have:=lex_trans l m l h h2;rw [lex_irrefl] at this;cases this
theorem gu {l m:List UInt8} (h:lexLt l m=true):l≠m:=fun e=>by subst e;rw [lex_irrefl] at h;cases h
def gI (l m:List UInt8):Int:=if lexLt l m then-1 else if lexLt m l then 1 else 0
theorem G4 (l m:List UInt8):decide (gI l m<0)=lexLt l m:=by
 unfold gI
 cases h:lexLt l m<;>cases h2:lexLt m l<;>simp
def gK {α:Type} (key:α→List UInt8):List α→Prop:=List.Pairwise fun x y=>lexLt (key x) (key y)=true

theorem D8 {α:Type} {key:α→List UInt8} :∀ {l m:List α},gK key l→gK key m→(∀x,x∈l↔x∈m)→l=m
 | [],[],_,_,_=>rfl
 | [],y::m,_,_,h=>by have:=(h y).2 (by simp);simp at this
 | x::l,[],_,_,h=>by have:=(h x).1 (by simp);simp at this
 | x::l,y::m,h1,h2,h=>by
   have a1:=List.pairwise_cons.1 h1
   have a2:=List.pairwise_cons.1 h2
   have e:x=y:=by
     have hx:=(h x).1 (by simp)
     have hy:=(h y).2 (by simp)
     rcases List.mem_cons.1 hx with e | hx
     · exact e
     · rcases List.mem_cons.1 hy with e | hy
       · exact e.symm
       · have c1:=a2.1 x hx
         have c2:=a1.1 y hy
         rw [lex_asymm c1] at c2
         cases c2
   subst e
   rw [D8 a1.2 a2.2 fun z=>?_]
   have hz:=h z
   constructor
   · intro hm
     rcases List.mem_cons.1 (hz.1 (List.mem_cons_of_mem _ hm)) with e | hm'
     · subst e;exact absurd rfl (gu (a1.1 z hm))
     · exact hm'
   · intro hm
     rcases List.mem_cons.1 (hz.2 (List.mem_cons_of_mem _ hm)) with e | hm'
     · subst e;exact absurd rfl (gu (a2.1 z hm))
     · exact hm'

theorem uU {α:Type} {key:α→List UInt8} {l:List α} (h:gK key l) {x y:α} (hx:x∈l) (hy:y∈l) (he:key x=key y):x=y:=by
 induction l with
 | nil=>simp at hx
 | cons z l ih=>
   have a:=List.pairwise_cons.1 h
   rcases List.mem_cons.1 hx with e1 | h1<;>rcases List.mem_cons.1 hy with e2 | h2
   · rw [e1,e2]
   · rw [e1] at he;exact absurd he (gu (a.1 y h2))
   · rw [e2] at he;exact absurd he.symm (gu (a.1 x h1))
   · exact ih a.2 h1 h2

theorem CA:∀l m:List UInt8,Op.bytesLess l m=lexLt l m
 | [],[]=>rfl
 | _::_,[]=>rfl
 | [],_::_=>rfl
 | a::l,b::m=>by
   simp only [Op.bytesLess,lexLt,CA l m]
   by_cases h1:a.toNat<b.toNat
   · have:a<b:=UInt8.lt_iff_toNat_lt.2 h1
     simp [h1,this]
   · have h2:¬a<b:=fun h=>h1 (UInt8.lt_iff_toNat_lt.1 h)
     by_cases h3:b.toNat<a.toNat
     · have:a≠b:=fun e=>by rw [e] at h3;omega
       simp [h1,h2,h3,this]
     · have:a=b:=UInt8.toNat_inj.1 (by omega)
       simp [h1,h2,h3,this]
namespace Sx
def aK (l:List UInt8):Value:=.string ⟨l.toArray⟩
end Sx

end Go.Proofs.YtpmhjnhgpplmnaaGreatDoor
end
