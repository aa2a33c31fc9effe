/- The proof of RepoNoneCardSaid, part 3: what it rests on (conditions: those that each theorem names). -/
import Derived.Test.YtpmhjnhgpplmnaaGreatDoorS2
import Derived.Test.YtpmhjnhgpplmnaaGreatDoorRows
import Derived.Lib.ConvBytes
import Derived.Laws.Cover3
import Derived.Lib.AppendZerosOnto
section
namespace Go.Proofs.YtpmhjnhgpplmnaaGreatDoor
open Go Go.Proofs.YtpmhjnhgpplmnaaGreatDoor.Sx
set_option maxRecDepth 100000
variable (w:World) (R:Ending→World→Prop)
theorem ou (a b:Int) (h:0≤b∧0≤IntKind.wrap .u64 ((32:Int)-b)∧R (.returned (.int .u32 (bor .u32 (cG .u32 a b) (bK .u32 a (IntKind.wrap .u64 ((32:Int)-b)))))) w):Calls Tryz.prog 365 #[.int .u32 a,.int .u64 b] w R:=aa 0xd7ae7adc1d Tryz.func365 (by kernel_rfl) h
theorem nG (a b:Nat) (c d e f:Int) (h:∃g:World→Prop,g w.drew∧0≤c∧c<(16:Int)∧0≤d∧d<(16:Int)∧∃h,(∀d,g d→LdQ 370 a (b+Int.toNat c*1) (.int .u32 h) d)∧∃i,(∀c,g c→LdQ 370 a (b+Int.toNat d*1) (.int .u32 i) c)∧0≤c∧c<(16:Int)∧Stz 370 a (b+Int.toNat c*1) (.int .u32 (IntKind.wrap .u32 (h+i))) w.drew fun g=>∃h:World→Prop,h g.drew∧0≤f∧f<(16:Int)∧0≤c∧c<(16:Int)∧∃i,(∀c,h c→LdQ 370 a (b+Int.toNat f*1) (.int .u32 i) c)∧∃j,(∀d,h d→LdQ 370 a (b+Int.toNat c*1) (.int .u32 j) d)∧Calls Tryz.prog 365 #[.int .u32 (aN .u32 i j),.int .u64 16] g.drew fun g i=>∃j,g=.returned (.int .u32 j)∧∃g:World→Prop,(∀a,g a→h a)∧g i∧0≤f∧f<(16:Int)∧Stz 370 a (b+Int.toNat f*1) (.int .u32 j) i fun g=>∃h:World→Prop,h g.drew∧0≤e∧e<(16:Int)∧0≤f∧f<(16:Int)∧∃i,(∀c,h c→LdQ 370 a (b+Int.toNat e*1) (.int .u32 i) c)∧∃j,(∀c,h c→LdQ 370 a (b+Int.toNat f*1) (.int .u32 j) c)∧0≤e∧e<(16:Int)∧Stz 370 a (b+Int.toNat e*1) (.int .u32 (IntKind.wrap .u32 (i+j))) g.drew fun g=>∃h:World→Prop,h g.drew∧0≤d∧d<(16:Int)∧0≤e∧e<(16:Int)∧∃i,(∀c,h c→LdQ 370 a (b+Int.toNat d*1) (.int .u32 i) c)∧∃j,(∀c,h c→LdQ 370 a (b+Int.toNat e*1) (.int .u32 j) c)∧Calls Tryz.prog 365 #[.int .u32 (aN .u32 i j),.int .u64 12] g.drew fun g i=>∃j,g=.returned (.int .u32 j)∧∃g:World→Prop,(∀a,g a→h a)∧g i∧0≤d∧d<(16:Int)∧Stz 370 a (b+Int.toNat d*1) (.int .u32 j) i fun g=>∃h:World→Prop,h g.drew∧0≤c∧c<(16:Int)∧0≤d∧d<(16:Int)∧∃i,(∀d,h d→LdQ 370 a (b+Int.toNat c*1) (.int .u32 i) d)∧∃j,(∀c,h c→LdQ 370 a (b+Int.toNat d*1) (.int .u32 j) c)∧0≤c∧c<(16:Int)∧Stz 370 a (b+Int.toNat c*1) (.int .u32 (IntKind.wrap .u32 (i+j))) g.drew fun g=>∃h:World→Prop,h g.drew∧0≤f∧f<(16:Int)∧0≤c∧c<(16:Int)∧∃i,(∀c,h c→LdQ 370 a (b+Int.toNat f*1) (.int .u32 i) c)∧∃j,(∀d,h d→LdQ 370 a (b+Int.toNat c*1) (.int .u32 j) d)∧Calls Tryz.prog 365 #[.int .u32 (aN .u32 i j),.int .u64 8] g.drew fun c g=>∃i,c=.returned (.int .u32 i)∧∃c:World→Prop,(∀a,c a→h a)∧c g∧0≤f∧f<(16:Int)∧Stz 370 a (b+Int.toNat f*1) (.int .u32 i) g fun c=>∃g:World→Prop,g c.drew∧0≤e∧e<(16:Int)∧0≤f∧f<(16:Int)∧∃h,(∀c,g c→LdQ 370 a (b+Int.toNat e*1) (.int .u32 h) c)∧∃i,(∀c,g c→LdQ 370 a (b+Int.toNat f*1) (.int .u32 i) c)∧0≤e∧e<(16:Int)∧Stz 370 a (b+Int.toNat e*1) (.int .u32 (IntKind.wrap .u32 (h+i))) c.drew fun c=>∃f:World→Prop,f c.drew∧0≤d∧d<(16:Int)∧0≤e∧e<(16:Int)∧∃g,(∀c,f c→LdQ 370 a (b+Int.toNat d*1) (.int .u32 g) c)∧∃h,(∀c,f c→LdQ 370 a (b+Int.toNat e*1) (.int .u32 h) c)∧Calls Tryz.prog 365 #[.int .u32 (aN .u32 g h),.int .u64 7] c.drew fun c e=>∃g,c=.returned (.int .u32 g)∧∃c:World→Prop,(∀a,c a→f a)∧c e∧0≤d∧d<(16:Int)∧Stz 370 a (b+Int.toNat d*1) (.int .u32 g) e fun a=>R (.returned (.tuple #[])) a):Calls Tryz.prog 329 #[.pointer (some ⟨a,b,none⟩),.int .i64 c,.int .i64 d,.int .i64 e,.int .i64 f] w R:=aa 0x12810428451f12181d401c121b326301e151a119187325514321052511f1041f451e101c121b326301d151a1191873255143210525212810428451f12181d401c121b326301e151a1191873255143210525211f1041f451e101c121b326301d151a1191873255143210525212810428451f12181d401c121b326301e151a1191873255143210525211f1041f451e101c121b326301d151a1191873255143210525212810428451f12181d401c121b326301e151a1191873255143210525211f1041f451e101c121b326301d151a11918732551432105252 Tryz.func329 (by kernel_rfl) h
theorem qx (a b:Array Value) (c:Int) (d:Option Addr) (e f:Nat) (h:Bxz 39 (.agg a) w fun a f=>Bxz 287 (.agg b) f fun b f=>Ifz (decide (c<(0:Int))||decide (c>(274877906944:Int))||decide ((e:Int)>IntKind.wrap .i64 ((274877906944:Int)-c))) (R (.returned (.tuple #[.slice none 0 0,.int .i64 8])) f) (Bsz 26 0 #[] f (fun f g h i=>Buz 368 #[] i fun j=>Alz 368 i fun i k=>Stz 368 i 0 (.agg j) k fun j=>∃(k:Option Addr→Nat→Nat→Int→World→Prop) (l:Option Addr→Nat→Nat→Int→World→Nat),k f g h 0 j∧∀f g h j m,k f g h j m→Ifz (decide (j<(e:Int))) (∃n:World→Prop,Ifz (j==(0:Int)||Int.tmod (IntKind.wrap .i64 (c+j)) (64:Int)==(0:Int)) (Laz 39 a 0 m (fun a=>Laz 287 b 0 m fun b=>Caz 273 #[.agg a,.int .u32 (IntKind.wrap .u32 (IntKind.wrap .i64 (Int.tdiv (IntKind.wrap .i64 (c+j)) (64:Int)))),.agg b] m fun a b=>Stz 368 i 0 (.agg a) b fun a=>n a)) (n m)∧∀a,n a→∃b:World→Prop,b a.drew∧∃n o,d=some ⟨n,o,none⟩∧0≤j∧j<(e:Int)∧0≤Int.tmod (IntKind.wrap .i64 (c+j)) (64:Int)∧Int.tmod (IntKind.wrap .i64 (c+j)) (64:Int)<(64:Int)∧∃d,(∀a,b a→LdQ 5 n (o+Int.toNat j*1) (.int .u8 d) a)∧∃e,(∀a,b a→LdQ 5 i (0+Int.toNat (Int.tmod (IntKind.wrap .i64 (c+j)) (64:Int))*1) (.int .u8 e) a)∧Bsz 26 1 #[(0,.int .u8 (aN .u8 d e))] a.drew fun a c d e=>∃i:World→Prop,(∀a,i a→b a)∧i e∧Apz 26 (.slice f g h) (.slice a c d) e fun a b c d=>∃e:World→Prop,(∀a,e a→i a)∧e d∧k a b c (IntKind.wrap .i64 (j+1)) d∧l a b c (IntKind.wrap .i64 (j+1)) d<l f g h j m) (R (.returned (.tuple #[.slice f g h,.int .i64 0])) m)))):Calls Tryz.prog 201 #[.agg a,.agg b,.int .i64 c,.slice d e f] w R:=aa 0x3d3b0001e1721d4721c401b111a3143519118765425312103250068148352831300185b1a05bec2820034d207211c11a24d3c11c11a3981d206783c0175c002d305b12bec20d77c Tryz.func201 (by kernel_rfl) h
theorem nP (a:Array Value) (b:Int) (c:Array Value) (h:Bxz 39 (.agg a) w fun a d=>Bxz 287 (.agg c) d fun c d=>Alz 368 d fun d e=>Buz 430 #[] e fun f=>Alz 430 e fun e g=>Stz 430 e 0 (.agg f) g fun f=>Stz 370 e 0 (.int .u32 1634760805) f fun f=>Stz 370 e 1 (.int .u32 857760878) f fun f=>Stz 370 e 2 (.int .u32 2036477234) f fun f=>Stz 370 e 3 (.int .u32 1797285236) f fun f=>Stz 370 e 12 (.int .u32 b) f fun b=>∃(f:Int→World→Prop) (g:Int→World→Nat),f 0 b∧∀b h,f b h→Ifz (decide (b<(32:Int))) (∃c:World→Prop,c h.drew∧0≤IntKind.wrap .i64 ((4:Int)+IntKind.wrap .i64 (Int.tdiv b (4:Int)))∧IntKind.wrap .i64 ((4:Int)+IntKind.wrap .i64 (Int.tdiv b (4:Int)))<(16:Int)∧0≤b∧b<(32:Int)∧∃d,(∀a,c a→LdQ 370 e (0+Int.toNat (IntKind.wrap .i64 ((4:Int)+IntKind.wrap .i64 (Int.tdiv b (4:Int))))*1) (.int .u32 d) a)∧∃i,(∀d,c d→LdQ 5 a (0+Int.toNat b*1) (.int .u8 i) d)∧0≤IntKind.wrap .u64 ((8:Int)*IntKind.wrap .u64 (Int.tmod b (4:Int)))∧0≤IntKind.wrap .i64 ((4:Int)+IntKind.wrap .i64 (Int.tdiv b (4:Int)))∧IntKind.wrap .i64 ((4:Int)+IntKind.wrap .i64 (Int.tdiv b (4:Int)))<(16:Int)∧∃a,(Instr.storeAt 370 (.pointer (some ⟨e,0+Int.toNat (IntKind.wrap .i64 ((4:Int)+IntKind.wrap .i64 (Int.tdiv b (4:Int))))*1,none⟩)) (.int .u32 (bor .u32 d (cG .u32 (IntKind.wrap .u32 i) (IntKind.wrap .u64 ((8:Int)*IntKind.wrap .u64 (Int.tmod b (4:Int)))))))).run Tryz.prog h.drew=.ok () a∧f (IntKind.wrap .i64 (b+1)) a∧g (IntKind.wrap .i64 (b+1)) a<g b h) (∃(a:Int→World→Prop) (b:Int→World→Nat),a 0 h∧∀f g,a f g→Ifz (decide (f<(12:Int))) (∃d:World→Prop,d g.drew∧0≤IntKind.wrap .i64 ((13:Int)+IntKind.wrap .i64 (Int.tdiv f (4:Int)))∧IntKind.wrap .i64 ((13:Int)+IntKind.wrap .i64 (Int.tdiv f (4:Int)))<(16:Int)∧0≤f∧f<(12:Int)∧∃h,(∀a,d a→LdQ 370 e (0+Int.toNat (IntKind.wrap .i64 ((13:Int)+IntKind.wrap .i64 (Int.tdiv f (4:Int))))*1) (.int .u32 h) a)∧∃i,(∀a,d a→LdQ 5 c (0+Int.toNat f*1) (.int .u8 i) a)∧0≤IntKind.wrap .u64 ((8:Int)*IntKind.wrap .u64 (Int.tmod f (4:Int)))∧0≤IntKind.wrap .i64 ((13:Int)+IntKind.wrap .i64 (Int.tdiv f (4:Int)))∧IntKind.wrap .i64 ((13:Int)+IntKind.wrap .i64 (Int.tdiv f (4:Int)))<(16:Int)∧∃c,(Instr.storeAt 370 (.pointer (some ⟨e,0+Int.toNat (IntKind.wrap .i64 ((13:Int)+IntKind.wrap .i64 (Int.tdiv f (4:Int))))*1,none⟩)) (.int .u32 (bor .u32 h (cG .u32 (IntKind.wrap .u32 i) (IntKind.wrap .u64 ((8:Int)*IntKind.wrap .u64 (Int.tmod f (4:Int)))))))).run Tryz.prog g.drew=.ok () c∧a (IntKind.wrap .i64 (f+1)) c∧b (IntKind.wrap .i64 (f+1)) c<b f g) (Laz 430 e 0 g (fun a=>Alz 430 g fun b c=>Stz 430 b 0 (.agg a) c fun a=>∃(c:Int→World→Prop) (f:Int→World→Nat),c 0 a∧∀a g,c a g→Ifz (decide (a<(10:Int))) (Calls Tryz.prog 329 #[.pointer (some ⟨b,0,none⟩),.int .i64 0,.int .i64 4,.int .i64 8,.int .i64 12] g (fun d e=>d=.returned (.tuple #[])∧Calls Tryz.prog 329 #[.pointer (some ⟨b,0,none⟩),.int .i64 1,.int .i64 5,.int .i64 9,.int .i64 13] e fun d e=>d=.returned (.tuple #[])∧Calls Tryz.prog 329 #[.pointer (some ⟨b,0,none⟩),.int .i64 2,.int .i64 6,.int .i64 10,.int .i64 14] e fun d e=>d=.returned (.tuple #[])∧Calls Tryz.prog 329 #[.pointer (some ⟨b,0,none⟩),.int .i64 3,.int .i64 7,.int .i64 11,.int .i64 15] e fun d e=>d=.returned (.tuple #[])∧Calls Tryz.prog 329 #[.pointer (some ⟨b,0,none⟩),.int .i64 0,.int .i64 5,.int .i64 10,.int .i64 15] e fun d e=>d=.returned (.tuple #[])∧Calls Tryz.prog 329 #[.pointer (some ⟨b,0,none⟩),.int .i64 1,.int .i64 6,.int .i64 11,.int .i64 12] e fun d e=>d=.returned (.tuple #[])∧Calls Tryz.prog 329 #[.pointer (some ⟨b,0,none⟩),.int .i64 2,.int .i64 7,.int .i64 8,.int .i64 13] e fun d e=>d=.returned (.tuple #[])∧Calls Tryz.prog 329 #[.pointer (some ⟨b,0,none⟩),.int .i64 3,.int .i64 4,.int .i64 9,.int .i64 14] e fun b d=>b=.returned (.tuple #[])∧c (IntKind.wrap .i64 (a+1)) d∧f (IntKind.wrap .i64 (a+1)) d<f a g)) (Buz 368 #[] g (fun a=>Alz 368 g fun c f=>Stz 368 c 0 (.agg a) f fun a=>∃(f:Int→World→Prop) (g:Int→World→Nat),f 0 a∧∀a h,f a h→Ifz (decide (a<(64:Int))) (∃d:World→Prop,d h.drew∧0≤IntKind.wrap .i64 (Int.tdiv a (4:Int))∧IntKind.wrap .i64 (Int.tdiv a (4:Int))<(16:Int)∧0≤IntKind.wrap .i64 (Int.tdiv a (4:Int))∧IntKind.wrap .i64 (Int.tdiv a (4:Int))<(16:Int)∧∃i,(∀b,d b→LdQ 370 e (0+Int.toNat (IntKind.wrap .i64 (Int.tdiv a (4:Int)))*1) (.int .u32 i) b)∧∃e,(∀c,d c→LdQ 370 b (0+Int.toNat (IntKind.wrap .i64 (Int.tdiv a (4:Int)))*1) (.int .u32 e) c)∧0≤IntKind.wrap .u64 ((8:Int)*IntKind.wrap .u64 (Int.tmod a (4:Int)))∧0≤a∧a<(64:Int)∧∃b,(Instr.storeAt 5 (.pointer (some ⟨c,0+Int.toNat a*1,none⟩)) (.int .u8 (IntKind.wrap .u8 (bK .u32 (IntKind.wrap .u32 (i+e)) (IntKind.wrap .u64 ((8:Int)*IntKind.wrap .u64 (Int.tmod a (4:Int)))))))).run Tryz.prog h.drew=.ok () b∧f (IntKind.wrap .i64 (a+1)) b∧g (IntKind.wrap .i64 (a+1)) b<g a h) (Laz 368 c 0 h (fun a=>Stz 368 d 0 (.agg a) h fun a=>∃b,(loadVar 368 ⟨d,0,none⟩).run Tryz.prog a=.ok b a∧R (.returned b) a)))))))):Calls Tryz.prog 273 #[.agg a,.int .u32 b,.agg c] w R:=aa 0x683c3b06817a621001918222732335615422521102252820032d20111d12e1aa21d2981d206783c3b0041004c004c004c004c004c004c004c820032d20111b11c18d11b2981d206783c3b12b1042b452a10291728101b111a32731f1e1d1c4251910181561543210625820032d20111912f5d1192981d23b12b1042b452a10291728101b111a32731f1e1d1c4251910181561543210625820032d20111812f2e1182981d206dc061c061c061c061c06783c0777c Tryz.func273 (by kernel_rfl) h
end Go.Proofs.YtpmhjnhgpplmnaaGreatDoor
end

section
namespace Go.Proofs.YtpmhjnhgpplmnaaGreatDoor
open Go Sx
set_option maxRecDepth 8000

theorem sX (x n:Nat) (w:World) (hx:x<4294967296) (hn:n<32) (h0:0<n):Calls Tryz.prog 383 #[.int .u32 (x:Int),.int .i64 (n:Int)] w fun e w'=>e=.returned (.int .u32 ((rotl x n:Nat):Int))∧w'=w:=by
 apply jt
 have h1:eo .u64 (IntKind.wrap .u64 (n:Int)) 31=(n:Int):=by
   rw [oO rfl (by simp [eA,IntKind.bits];omega),show (31:Int)=((31:Nat):Int) from rfl,tJ rfl (by simp [eA,IntKind.bits];omega) (by simp [eA,IntKind.bits]),show n&&& 31=n%32 from Nat.and_two_pow_sub_one_eq_mod n 5,Nat.mod_eq_of_lt hn]
 have h2:IntKind.wrap .u64 ((32:Int)- (n:Int))=((32-n:Nat):Int):=by rw [wrap_u64];omega
 rw [h1,h2]
 refine ⟨by omega,by omega,?_,rfl⟩
 rw [Eo x n hx hn h0]

theorem IP (x n:Nat) (w:World) (hx:x<4294967296) (hn:n<32) (h0:0<n):Calls Tryz.prog 365 #[.int .u32 (x:Int),.int .u64 (n:Int)] w fun e w'=>e=.returned (.int .u32 ((rotl x n:Nat):Int))∧w'=w:=by
 apply ou
 have h2:IntKind.wrap .u64 ((32:Int)- (n:Int))=((32-n:Nat):Int):=by rw [wrap_u64];omega
 rw [h2]
 refine ⟨by omega,by omega,?_,rfl⟩
 rw [Eo x n hx hn h0]

theorem AZ (a b c d:Nat) (w:World) (hb:b<4294967296) (hd:d<4294967296):
   Calls Tryz.prog 378 #[.int .u32 (a:Int),.int .u32 (b:Int),.int .u32 (c:Int),.int .u32 (d:Int)] w fun e w'=>e=.returned (.tuple #[.int .u32 ((qA a b c d:Nat):Int),.int .u32 ((qB a b c d:Nat):Int),.int .u32 ((qC a b c d:Nat):Int),.int .u32 ((qD a b c d:Nat):Int)])∧w'=w:=by
 have l1:hD a b d 16<4294967296:=Bw _ (fR hd (dz _ _))
 have l2:hB a b c d 16 12<4294967296:=Bw _ (fR hb (dz _ _))
 apply sy
 simp only [cZ]
 rw [xor_val hd (dz _ _)]
 refine (sX _ 16 w (fR hd (dz _ _)) (by decide) (by decide)).mono ?_
 rintro e w1 ⟨rfl,rfl⟩
 refine ⟨_,rfl,?_⟩
 simp only [cZ]
 rw [show rotl (d^^^aZ a b) 16=hD a b d 16 from rfl,xor_val hb (dz _ _)]
 refine (sX _ 12 _ (fR hb (dz _ _)) (by decide) (by decide)).mono ?_
 rintro e w2 ⟨rfl,rfl⟩
 refine ⟨_,rfl,?_⟩
 simp only [cZ]
 rw [show rotl (b^^^aZ c (hD a b d 16)) 12=hB a b c d 16 12 from rfl,xor_val l1 (dz _ _)]
 refine (sX _ 8 _ (fR l1 (dz _ _)) (by decide) (by decide)).mono ?_
 rintro e w3 ⟨rfl,rfl⟩
 refine ⟨_,rfl,?_⟩
 simp only [cZ]
 rw [xor_val l2 (dz _ _)]
 refine (sX _ 7 _ (fR l2 (dz _ _)) (by decide) (by decide)).mono ?_
 rintro e w4 ⟨rfl,rfl⟩
 exact ⟨_,rfl,rfl,rfl⟩

section
variable {w0 w:World} {X:List Nat} {M:List Res}

theorem tZ (h:St w0 X w M) {m g:Nat} {T:TypeId} {l:List Nat} (hi:M[m]?=some (.arr g T (kv .u32 l))) (hl:l.length=16) {i j:Nat} (ha:i<16) (hb:j<16) {K:World→Prop}
   (hK:∀w',St w0 X w' (M.set m (.arr g T (kv .u32 (fJ l i j))))→K w'):
   ∃S:World→Prop,S w.drew∧(0≤(i:Int)∧(i:Int)<16∧(0≤(j:Int)∧(j:Int)<16∧
     (∃t:Int,(∀w',S w'→(Instr.loadAt 370 (.pointer (some ⟨g,0+Int.toNat (i:Int)*1,none⟩))).run Tryz.prog w'=.ok (.int .u32 t) w')∧
     (∃t':Int,(∀w',S w'→(Instr.loadAt 370 (.pointer (some ⟨g,0+Int.toNat (j:Int)*1,none⟩))).run Tryz.prog w'=.ok (.int .u32 t') w')∧
       (0≤(i:Int)∧(i:Int)<16∧(∃w1,(Instr.storeAt 370 (.pointer (some ⟨g,0+Int.toNat (i:Int)*1,none⟩)) (.int .u32 (IntKind.wrap .u32 (t+t')))).run Tryz.prog w.drew=.ok () w1∧K w1)))))):=by
 have e:∀k:Nat,0+Int.toNat (k:Int)*1=k:=fun k=>by omega
 have hT:∀w,(isAgg 370).run Tryz.prog w=.ok false w:=fun w=>Tryz.isAgg370 w
 refine ⟨fun w'=>St w0 X w' M,h.drew,by omega,by omega,by omega,by omega,_,fun w' h'=>h'.ldK hi (hT _) (e i) (by omega),_,fun w' h'=>h'.ldK hi (hT _) (e j) (by omega),by omega,by omega,?_⟩
 rw [cZ]
 obtain ⟨w1,hr,h1⟩:=h.drew.stK (n:=aZ (l.getD i 0) (l.getD j 0)) hi (Tryz.sizeOf370 _) (e i) (by omega)
 exact ⟨w1,hr,hK _ h1⟩

theorem tE (h:St w0 X w M) {m g:Nat} {T:TypeId} {l:List Nat} (hi:M[m]?=some (.arr g T (kv .u32 l))) (hl:l.length=16) (hlt:b9 l) {i j n:Nat} (ha:i<16) (hb:j<16) (hn:n<32) (h0:0<n) {K:World→Prop}
   (hK:∀w',St w0 X w' (M.set m (.arr g T (kv .u32 (gW l i j n))))→K w'):
   ∃S:World→Prop,S w.drew∧(0≤(i:Int)∧(i:Int)<16∧(0≤(j:Int)∧(j:Int)<16∧
     (∃t:Int,(∀w',S w'→(Instr.loadAt 370 (.pointer (some ⟨g,0+Int.toNat (i:Int)*1,none⟩))).run Tryz.prog w'=.ok (.int .u32 t) w')∧
     (∃t':Int,(∀w',S w'→(Instr.loadAt 370 (.pointer (some ⟨g,0+Int.toNat (j:Int)*1,none⟩))).run Tryz.prog w'=.ok (.int .u32 t') w')∧
     (Calls Tryz.prog 365 #[.int .u32 (aN .u32 t t'),.int .u64 ((n:Nat):Int)] w.drew fun e w2=>∃t2:Int,e=.returned (.int .u32 t2)∧
       (∃S_2:World→Prop,(∀w',S_2 w'→S w')∧S_2 w2∧
       (0≤(i:Int)∧(i:Int)<16∧(∃w1,(Instr.storeAt 370 (.pointer (some ⟨g,0+Int.toNat (i:Int)*1,none⟩)) (.int .u32 t2)).run Tryz.prog w2=.ok () w1∧K w1)))))))):=by
 have e:∀k:Nat,0+Int.toNat (k:Int)*1=k:=fun k=>by omega
 have hT:∀w,(isAgg 370).run Tryz.prog w=.ok false w:=fun w=>Tryz.isAgg370 w
 refine ⟨fun w'=>St w0 X w' M,h.drew,by omega,by omega,by omega,by omega,_,fun w' h'=>h'.ldK hi (hT _) (e i) (by omega),_,fun w' h'=>h'.ldK hi (hT _) (e j) (by omega),?_⟩
 rw [xor_val (hlt i) (hlt j)]
 refine (IP _ n _ (fR (hlt i) (hlt j)) hn h0).mono ?_
 rintro e1 w2 ⟨rfl,rfl⟩
 refine ⟨_,rfl,fun w'=>St w0 X w' M,fun _ h=>h,h.drew,by omega,by omega,?_⟩
 obtain ⟨w1,hr,h1⟩:=h.drew.stK (n:=rotl (l.getD i 0^^^l.getD j 0) n) hi (Tryz.sizeOf370 _) (e i) (by omega)
 exact ⟨w1,hr,hK _ h1⟩

end

theorem Fl (g:Nat) (T:TypeId) (l:List Nat) (a b c d:Nat) (w:World) (hg:w.heap[g]?=some (.cells (kv .u32 l).toArray T)) (hl:l.length=16) (hlt:b9 l) (ha:a<16) (hb:b<16) (hc:c<16) (hd:d<16):
   Calls Tryz.prog 329 #[.pointer (some ⟨g,0,none⟩),.int .i64 (a:Int),.int .i64 (b:Int),.int .i64 (c:Int),.int .i64 (d:Int)] w fun e w'=>e=.returned (.tuple #[])∧Chg [g] w w'∧w'.heap[g]?=some (.cells (kv .u32 (rnd l a b c d)).toArray T):=by
 apply nG
 refine tZ (St.AH hg) (m:=0) rfl hl ha hb fun w1 h1=>?_
 refine tE h1 (m:=0) rfl (by simp [hl]) (hlt.fJ _ _) hd ha (by decide) (by decide) fun w2 h2=>?_
 refine tZ h2 (m:=0) rfl (by simp [hl]) hc hd fun w3 h3=>?_
 refine tE h3 (m:=0) rfl (by simp [hl]) (((hlt.fJ _ _).gW _ _ _).fJ _ _) hb hc (by decide) (by decide) fun w4 h4=>?_
 refine tZ h4 (m:=0) rfl (by simp [hl]) ha hb fun w5 h5=>?_
 refine tE h5 (m:=0) rfl (by simp [hl]) (((((hlt.fJ _ _).gW _ _ _).fJ _ _).gW _ _ _).fJ _ _) hd ha (by decide) (by decide) fun w6 h6=>?_
 refine tZ h6 (m:=0) rfl (by simp [hl]) hc hd fun w7 h7=>?_
 refine tE h7 (m:=0) rfl (by simp [hl]) (((((((hlt.fJ _ _).gW _ _ _).fJ _ _).gW _ _ _).fJ _ _).gW _ _ _).fJ _ _) hb hc (by decide) (by decide) fun w8 h8=>?_
 exact ⟨rfl,h8.chg,h8.holds 0 _ rfl⟩

end Go.Proofs.YtpmhjnhgpplmnaaGreatDoor
end

section
namespace Go.Proofs.YtpmhjnhgpplmnaaGreatDoor
open Go Sx
set_option maxRecDepth 8000

theorem z8 (a:Option Addr) (n c:Nat) (l:List UInt8) (w:World) (hr:RdB w a n c l) (hn:4≤n):Calls Tryz.prog 382 #[.slice a n c] w fun e w'=>e=.returned (.int .u32 ((le4 l 0:Nat):Int))∧Chg [] w w':=by
 have hl:=hr.bh
 apply y8
 have b0:=(l.getD 0 0).toNat_lt
 have b1:=(l.getD 1 0).toNat_lt
 have b2:=(l.getD 2 0).toNat_lt
 have b3:=(l.getD 3 0).toNat_lt
 have hc:Cells w.drew a (bv l):=hr.cells.an (Chg.drew _ _)
 refine ⟨fun w'=>Chg [] w w',Chg.drew _ _,?_⟩
 refine ix0 hr.cells hl 0 (by omega) fun g0 o0 e0 h0=>ix0 hr.cells hl 1 (by omega) fun g1 o1 e1 h1=>ix0 hr.cells hl 2 (by omega) fun g2 o2 e2 h2=>ix0 hr.cells hl 3 (by omega) fun g3 o3 e3 h3=>?_
 refine ⟨g0,o0,e0,by omega,by omega,g1,o1,e1,by omega,by omega,g2,o2,e2,by omega,by omega,g3,o3,e3,by omega,by omega,
   _,fun w' h=>h0 w' (hr.cells.an h),_,fun w' h=>h1 w' (hr.cells.an h),_,fun w' h=>h2 w' (hr.cells.an h),_,fun w' h=>h3 w' (hr.cells.an h),?_,Chg.drew _ _⟩
 rw [bU (show (l.getD 0 0).toNat<4294967296 by omega),bU (show (l.getD 1 0).toNat<4294967296 by omega),bU (show (l.getD 2 0).toNat<4294967296 by omega),bU (show (l.getD 3 0).toNat<4294967296 by omega),
   show (8:Int)=((8:Nat):Int) from rfl,show (16:Int)=((16:Nat):Int) from rfl,show (24:Int)=((24:Nat):Int) from rfl,jj (by decide),jj (by decide),jj (by decide)]
 have m:∀x:Nat,x%4294967296<4294967296:=fun x=>Nat.mod_lt _ (by decide)
 rw [or_val (by omega) (m _),or_val (Nat.or_lt_two_pow (n:=32) (by omega) (m _)) (m _),or_val (Nat.or_lt_two_pow (n:=32) (Nat.or_lt_two_pow (n:=32) (by omega) (m _)) (m _)) (m _)]
 rfl

theorem GI (l:List UInt8) (o n:Nat) (h:4≤n):le4 ((l.drop o).take n) 0=le4 l o:=by
 have:∀j,j<4→((l.drop o).take n).getD (0+j) 0=l.getD (o+j) 0:=fun j hj=>by
   simp only [List.getD,List.getElem?_take,List.getElem?_drop,Nat.zero_add]
   rw [if_pos (by omega)]
 have h0:=this 0 (by omega)
 rw [Nat.add_zero,Nat.add_zero] at h0
 simp only [le4,h0,this 1 (by omega),this 2 (by omega),this 3 (by omega)]

theorem oC (w:World):(zeroValue 430).run Tryz.prog w=.ok (.agg (kv .u32 (List.replicate 16 0)).toArray) w:=Tryz.zeroValue430 w
theorem zero64 (w:World):(zeroValue 368).run Tryz.prog w=.ok (.agg (bv (List.replicate 64 0)).toArray) w:=Tryz.zeroValue368 w

theorem FA (key nonce:List UInt8) (ctr:Nat) (w:World) (hk:key.length=32) (hn:nonce.length=12) (hc:ctr<4294967296):
   Calls Tryz.prog 377 #[.agg (bv key).toArray,.int .u32 (ctr:Int),.agg (bv nonce).toArray] w fun e w'=>e=.returned (.agg (kv .u32 (jc key ctr nonce)).toArray)∧Chg [] w w':=by
 apply wg
 obtain ⟨g1,w1,r1,h1⟩:=(St.start w).b7 (P:=Tryz.prog) 39 (bv key)
 obtain ⟨g2,w2,r2,h2⟩:=h1.b7 (P:=Tryz.prog) 287 (bv nonce)
 obtain ⟨g3,w3,r3,h3⟩:=h2.az oC
 have hb:=dx (P:=Tryz.prog) (w:=w3) (oC w3) Tryz.underlying430 (Tryz.sizeOf370 _) (kv .u32 [1634760805,857760878,2036477234,1797285236]) (eN _ _) (by simp)
 obtain ⟨g4,w4,r4,h4⟩:=h3.az oC
 obtain ⟨w5,r5,h5⟩:=h4.stA (i:=3) (v:=kv .u32 ([1634760805,857760878,2036477234,1797285236]++List.replicate 12 0)) rfl (Tryz.sizeOf430 _) (by simp) (by simp) (eN _ _)
 refine ⟨_,_,r1,_,_,r2,_,_,r3,_,hb,_,_,r4,_,r5,?_⟩
 refine ⟨fun i w'=>∃k:Nat,i=(k:Int)∧k≤8∧St w [] w' [.arr g1 39 (bv key),.arr g2 287 (bv nonce),.arr g3 430 (kv .u32 (List.replicate 16 0)),.arr g4 430 (kv .u32 (jE 4 key k ([1634760805,857760878,2036477234,1797285236]++List.replicate 12 0)))],fun i _=>8-i.toNat,
   ⟨0,rfl,by omega,h5⟩,?_⟩
 rintro i w6 ⟨k,rfl,hk8,hS⟩
 refine ⟨fun h=>?_,fun h=>?_⟩
 · have hk':k<8:=by simp at h;omega
   have e1:IntKind.wrap .i64 ((4:Int)*(k:Int))=((4*k:Nat):Int):=by rw [wrap_i64 (by omega) (by omega)];omega
   have e2:IntKind.wrap .i64 ((4:Int)+(k:Int))=((4+k:Nat):Int):=by rw [wrap_i64 (by omega) (by omega)];omega
   have e3:IntKind.wrap .i64 ((k:Int)+1)=((k+1:Nat):Int):=by rw [wrap_i64 (by omega) (by omega)];rfl
   rw [e1,e2,e3]
   refine ⟨by omega,by omega,by omega,fun a' hs=>?_⟩
   have hrd:=(hS.rdA (i:=0) (n:=32) rfl (by simp [hk])).sub (l:=4*k) (hh:=32) (m:=32) hs (by omega) (by omega) (by omega) (by omega)
   rw [Nat.mul_one,Nat.mul_one,←dc,←fV] at hrd
   refine (z8 _ _ _ _ _ hrd (by omega)).mono ?_
   rintro e w7 ⟨rfl,hc7⟩
   rw [GI _ _ _ (by omega)]
   refine ⟨_,rfl,by omega,by omega,?_⟩
   obtain ⟨w8,r8,h8⟩:=(hS.same hc7).stK (i:=3) (off:=0+Int.toNat ((4+k:Nat):Int)*1) (o:=4+k) (n:=le4 key (4*k)) rfl (Tryz.sizeOf370 _) (by omega) (by simp;omega)
   exact ⟨w8,r8,⟨k+1,rfl,by omega,h8⟩,by simp;omega⟩
 · have hk':k=8:=by simp at h;omega
   subst hk'
   obtain ⟨w7,r7,h7⟩:=hS.stK (i:=3) (off:=12) (o:=12) (n:=ctr) rfl (Tryz.sizeOf370 _) rfl (by simp)
   refine ⟨w7,r7,?_⟩
   refine ⟨fun i w'=>∃k:Nat,i=(k:Int)∧k≤3∧St w [] w' [.arr g1 39 (bv key),.arr g2 287 (bv nonce),.arr g3 430 (kv .u32 (List.replicate 16 0)),.arr g4 430 (kv .u32 (jE 13 nonce k ((jE 4 key 8 ([1634760805,857760878,2036477234,1797285236]++List.replicate 12 0)).set 12 ctr)))],fun i _=>3-i.toNat,
     ⟨0,rfl,by omega,h7⟩,?_⟩
   rintro i w8 ⟨k,rfl,hk8,hS⟩
   refine ⟨fun h=>?_,fun h=>?_⟩
   · have hk':k<3:=by simp at h;omega
     have e1:IntKind.wrap .i64 ((4:Int)*(k:Int))=((4*k:Nat):Int):=by rw [wrap_i64 (by omega) (by omega)];omega
     have e2:IntKind.wrap .i64 ((13:Int)+(k:Int))=((13+k:Nat):Int):=by rw [wrap_i64 (by omega) (by omega)];omega
     have e3:IntKind.wrap .i64 ((k:Int)+1)=((k+1:Nat):Int):=by rw [wrap_i64 (by omega) (by omega)];rfl
     rw [e1,e2,e3]
     refine ⟨by omega,by omega,by omega,fun a' hs=>?_⟩
     have hrd:=(hS.rdA (i:=1) (n:=12) rfl (by simp [hn])).sub (l:=4*k) (hh:=12) (m:=12) hs (by omega) (by omega) (by omega) (by omega)
     rw [Nat.mul_one,Nat.mul_one,←dc,←fV] at hrd
     refine (z8 _ _ _ _ _ hrd (by omega)).mono ?_
     rintro e w9 ⟨rfl,hc9⟩
     rw [GI _ _ _ (by omega)]
     refine ⟨_,rfl,by omega,by omega,?_⟩
     obtain ⟨w10,r10,h10⟩:=(hS.same hc9).stK (i:=3) (off:=0+Int.toNat ((13+k:Nat):Int)*1) (o:=13+k) (n:=le4 nonce (4*k)) rfl (Tryz.sizeOf370 _) (by omega) (by simp;omega)
     exact ⟨w10,r10,⟨k+1,rfl,by omega,h10⟩,by simp;omega⟩
   · have hk':k=3:=by simp at h;omega
     subst hk'
     have hA:∀w,(isAgg 430).run Tryz.prog w=.ok true w:=fun w=>Tryz.isAgg430 w
     refine ⟨_,hS.ldA (i:=3) rfl (hA _) (Tryz.sizeOf430 _) (by simp),?_⟩
     obtain ⟨w9,r9,h9⟩:=hS.stA (i:=2) (v:=kv .u32 (jc key ctr nonce)) rfl (Tryz.sizeOf430 _) (by simp) (by simp [jc]) (eN _ _)
     exact ⟨w9,r9,_,h9.bF (i:=2) rfl (hA _) (Tryz.sizeOf430 _) (by simp [jc]),rfl,h9.chg⟩

end Go.Proofs.YtpmhjnhgpplmnaaGreatDoor
end

section
namespace Go.Proofs.YtpmhjnhgpplmnaaGreatDoor
open Go Sx
set_option maxRecDepth 8000

theorem e16:∀w,(isAgg 430).run Tryz.prog w=.ok true w:=fun w=>Tryz.isAgg430 w
theorem e64:∀w,(isAgg 368).run Tryz.prog w=.ok true w:=fun w=>Tryz.isAgg368 w
theorem e32:∀w,(isAgg 39).run Tryz.prog w=.ok true w:=fun w=>Tryz.isAgg39 w
theorem e12:∀w,(isAgg 287).run Tryz.prog w=.ok true w:=fun w=>Tryz.isAgg287 w
theorem eU:∀w,(isAgg 370).run Tryz.prog w=.ok false w:=fun w=>Tryz.isAgg370 w

theorem xC (x y:List Nat) (i j:Nat) (hj:j<4):IntKind.wrap .u8 ((aZ (x.getD i 0) (y.getD i 0) / 2^(8*j):Nat):Int)=((oZ x y (4*i+j)).toNat:Int):=by
 rw [wrap_u8,oZ,show (4*i+j) / 4=i by omega,show (4*i+j)%4=j by omega]
 simp
theorem DX (x y:List Nat) (i:Nat) (h:i<64):(uX x y)[i]?=some (oZ x y i):=by simp [uX,h]

theorem FK (key nonce:List UInt8) (ctr:Nat) (w:World) (hk:key.length=32) (hn:nonce.length=12) (hc:ctr<4294967296):
   Calls Tryz.prog 364 #[.agg (bv key).toArray,.int .u32 (ctr:Int),.agg (bv nonce).toArray] w fun e w'=>e=.returned (.agg (bv (dD key ctr nonce)).toArray)∧Chg [] w w':=by
 apply wA
 obtain ⟨g1,w1,r1,h1⟩:=(St.start w).b7 (P:=Tryz.prog) 39 (bv key)
 obtain ⟨g2,w2,r2,h2⟩:=h1.b7 (P:=Tryz.prog) 287 (bv nonce)
 obtain ⟨g3,w3,r3,h3⟩:=h2.az zero64
 refine ⟨_,_,r1,_,_,r2,_,_,r3,_,h3.ldA (i:=0) rfl (e32 _) (Tryz.sizeOf39 _) (by simp [hk]),_,h3.ldA (i:=1) rfl (e12 _) (Tryz.sizeOf287 _) (by simp [hn]),(FA key nonce ctr w3 hk hn hc).mono ?_⟩
 rintro e w4 ⟨rfl,hc4⟩
 have h4:=h3.same hc4
 have hF:=yT key ctr nonce
 have hlF:=yf key nonce hc
 obtain ⟨F,hFd⟩:∃F,jc key ctr nonce=F:=⟨_,rfl⟩
 have hB:dD key ctr nonce=uX (cW 10 F) F:=by rw [dD,hFd]
 rw [hB]
 rw [hFd] at hF hlF ⊢
 obtain ⟨g5,w5,r5,h5⟩:=h4.az oC
 obtain ⟨w6,r6,h6⟩:=h5.stA (i:=3) (v:=kv .u32 F) rfl (Tryz.sizeOf430 _) (by simp) (by simp [hF]) (eN _ _)
 obtain ⟨g7,w7,r7,h7⟩:=h6.az oC
 obtain ⟨w8,r8,h8⟩:=h7.stA (i:=4) (v:=kv .u32 F) rfl (Tryz.sizeOf430 _) (by simp) (by simp [hF]) (eN _ _)
 refine ⟨_,rfl,_,_,r5,_,r6,_,h6.ldA (i:=3) rfl (e16 _) (Tryz.sizeOf430 _) (by simp [hF]),_,_,r7,_,r8,?_⟩
 obtain ⟨Mx,hMx⟩:∃Mx:List Nat→List Res,Mx=fun x=>[.arr g1 39 (bv key),.arr g2 287 (bv nonce),.arr g3 368 (bv (List.replicate 64 0)),.arr g5 430 (kv .u32 F),.arr g7 430 (kv .u32 x)]:=⟨_,rfl⟩
 have hi4:∀x,(Mx x)[4]?=some (.arr g7 430 (kv .u32 x)):=fun x=>by rw [hMx];rfl
 have hi3:∀x,(Mx x)[3]?=some (.arr g5 430 (kv .u32 F)):=fun x=>by rw [hMx];rfl
 have hi2:∀x,(Mx x)[2]?=some (.arr g3 368 (bv (List.replicate 64 0))):=fun x=>by rw [hMx];rfl
 have hset:∀x y,(Mx x).set 4 (.arr g7 430 (kv .u32 y))=Mx y:=fun x y=>by rw [hMx];rfl
 have h8':St w [] w8 (Mx F):=by rw [hMx];exact h8
 have hw:∀i:Nat,i<100→IntKind.wrap .i64 ((i:Int)+1)=((i+1:Nat):Int):=fun i h=>by rw [wrap_i64 (by omega) (by omega)];rfl
 have ze:∀k:Nat,0+Int.toNat (k:Int)*1=k:=fun k=>by omega
 have sU:∀w,(sizeOf 370).run Tryz.prog w=.ok 1 w:=fun w=>Tryz.sizeOf370 w
 have sB:∀w,(sizeOf 5).run Tryz.prog w=.ok 1 w:=fun w=>Tryz.sizeOf5 w
 -- a quarter round in place
 have step:∀(x:List Nat) (a b c d:Nat) (wa:World) (K:World→Prop),St w [] wa (Mx x)→x.length=16→b9 x→a<16→b<16→c<16→d<16→a≠b→a≠c→a≠d→b≠c→b≠d→c≠d→(∀wb,St w [] wb (Mx (rnd x a b c d))→K wb)→
     (∃S:World→Prop,S wa.drew∧(0≤(a:Int)∧(a:Int)<16∧(0≤(b:Int)∧(b:Int)<16∧(0≤(c:Int)∧(c:Int)<16∧(0≤(d:Int)∧(d:Int)<16∧
       (∃ta:Int,(∀w',S w'→(Instr.loadAt 370 (.pointer (some ⟨g7,0+Int.toNat (a:Int)*1,none⟩))).run Tryz.prog w'=.ok (.int .u32 ta) w')∧
       (∃tb:Int,(∀w',S w'→(Instr.loadAt 370 (.pointer (some ⟨g7,0+Int.toNat (b:Int)*1,none⟩))).run Tryz.prog w'=.ok (.int .u32 tb) w')∧
       (∃tc:Int,(∀w',S w'→(Instr.loadAt 370 (.pointer (some ⟨g7,0+Int.toNat (c:Int)*1,none⟩))).run Tryz.prog w'=.ok (.int .u32 tc) w')∧
       (∃td:Int,(∀w',S w'→(Instr.loadAt 370 (.pointer (some ⟨g7,0+Int.toNat (d:Int)*1,none⟩))).run Tryz.prog w'=.ok (.int .u32 td) w')∧
         (Calls Tryz.prog 378 #[.int .u32 ta,.int .u32 tb,.int .u32 tc,.int .u32 td] wa.drew fun e w11=>∃t0 t1 t2 t3:Int,e=.returned (.tuple #[.int .u32 t0,.int .u32 t1,.int .u32 t2,.int .u32 t3])∧
           (∃S_1:World→Prop,(∀w',S_1 w'→S w')∧S_1 w11∧
             (0≤(a:Int)∧(a:Int)<16∧(∃w12,(Instr.storeAt 370 (.pointer (some ⟨g7,0+Int.toNat (a:Int)*1,none⟩)) (.int .u32 t0)).run Tryz.prog w11=.ok () w12∧
             (0≤(b:Int)∧(b:Int)<16∧(∃w13,(Instr.storeAt 370 (.pointer (some ⟨g7,0+Int.toNat (b:Int)*1,none⟩)) (.int .u32 t1)).run Tryz.prog w12=.ok () w13∧
             (0≤(c:Int)∧(c:Int)<16∧(∃w14,(Instr.storeAt 370 (.pointer (some ⟨g7,0+Int.toNat (c:Int)*1,none⟩)) (.int .u32 t2)).run Tryz.prog w13=.ok () w14∧
             (0≤(d:Int)∧(d:Int)<16∧(∃w15,(Instr.storeAt 370 (.pointer (some ⟨g7,0+Int.toNat (d:Int)*1,none⟩)) (.int .u32 t3)).run Tryz.prog w14=.ok () w15∧K w15))))))))))))))))))):=by
   intro x a b c d wa K hS hx hlx ha hb hcc hd ab ac ad bc bd cd hK
   refine ⟨fun w'=>St w [] w' (Mx x),hS.drew,by omega,by omega,by omega,by omega,by omega,by omega,by omega,by omega,_,fun w' h=>h.ldK (hi4 x) (eU _) (ze a) (by omega),_,fun w' h=>h.ldK (hi4 x) (eU _) (ze b) (by omega),_,fun w' h=>h.ldK (hi4 x) (eU _) (ze c) (by omega),_,fun w' h=>h.ldK (hi4 x) (eU _) (ze d) (by omega),?_⟩
   refine (AZ _ _ _ _ _ (hlx b) (hlx d)).mono ?_
   rintro e w11 ⟨rfl,rfl⟩
   obtain ⟨w12,q1,s1⟩:=hS.drew.stK (n:=qA (x.getD a 0) (x.getD b 0) (x.getD c 0) (x.getD d 0)) (hi4 x) (sU _) (ze a) (by omega)
   rw [hset] at s1
   obtain ⟨w13,q2,s2⟩:=s1.stK (n:=qB (x.getD a 0) (x.getD b 0) (x.getD c 0) (x.getD d 0)) (hi4 _) (sU _) (ze b) (by simp;omega)
   rw [hset] at s2
   obtain ⟨w14,q3,s3⟩:=s2.stK (n:=qC (x.getD a 0) (x.getD b 0) (x.getD c 0) (x.getD d 0)) (hi4 _) (sU _) (ze c) (by simp;omega)
   rw [hset] at s3
   obtain ⟨w15,q4,s4⟩:=s3.stK (n:=qD (x.getD a 0) (x.getD b 0) (x.getD c 0) (x.getD d 0)) (hi4 _) (sU _) (ze d) (by simp;omega)
   rw [hset] at s4
   refine ⟨_,_,_,_,rfl,fun w'=>St w [] w' (Mx x),fun _ h=>h,hS.drew,by omega,by omega,w12,q1,by omega,by omega,w13,q2,by omega,by omega,w14,q3,by omega,by omega,w15,q4,hK _ ?_⟩
   rw [Nl (by omega) (by omega) (by omega) (by omega) ab ac ad bc bd cd]
   exact s4
 refine ⟨fun i w'=>∃k:Nat,i=(k:Int)∧k≤10∧St w [] w' (Mx (cW k F)),fun i _=>10-i.toNat,⟨0,rfl,by omega,h8'⟩,?_⟩
 rintro i w9 ⟨k,rfl,hk10,hS⟩
 refine ⟨fun h=>?_,fun h=>?_⟩
 · have hk':k<10:=by simp at h;omega
   refine ⟨fun i w'=>∃j:Nat,i=(j:Int)∧j≤4∧St w [] w' (Mx (wo j (cW k F))),fun i _=>4-i.toNat,⟨0,rfl,by omega,hS⟩,?_⟩
   rintro i w10 ⟨j,rfl,hj4,hS⟩
   refine ⟨fun h=>?_,fun h=>?_⟩
   · have hj':j<4:=by simp at h;omega
     have e1:IntKind.wrap .i64 ((4:Int)+(j:Int))=((4+j:Nat):Int):=by rw [wrap_i64 (by omega) (by omega)];omega
     have e2:IntKind.wrap .i64 ((8:Int)+(j:Int))=((8+j:Nat):Int):=by rw [wrap_i64 (by omega) (by omega)];omega
     have e3:IntKind.wrap .i64 ((12:Int)+(j:Int))=((12+j:Nat):Int):=by rw [wrap_i64 (by omega) (by omega)];omega
     rw [e1,e2,e3,hw j (by omega)]
     refine step _ j (4+j) (8+j) (12+j) _ _ hS (by simp [hF]) ((hlF.cW k).wo j) (by omega) (by omega) (by omega) (by omega) (by omega) (by omega) (by omega) (by omega) (by omega) (by omega) fun wb hb=>?_
     exact ⟨⟨j+1,rfl,by omega,hb⟩,by simp;omega⟩
   · have hj':j=4:=by simp at h;omega
     subst hj'
     refine ⟨fun i w'=>∃j:Nat,i=(j:Int)∧j≤4∧St w [] w' (Mx (zS j (wo 4 (cW k F)))),fun i _=>4-i.toNat,⟨0,rfl,by omega,hS⟩,?_⟩
     rintro i w11 ⟨j,rfl,hj4,hS⟩
     refine ⟨fun h=>?_,fun h=>?_⟩
     · have hj':j<4:=by simp at h;omega
       have e0:∀(u v:Nat),u<100→v<100→IntKind.wrap .i64 ((u:Int)+Int.tmod (IntKind.wrap .i64 ((j:Int)+(v:Int))) 4)=((u+(j+v)%4:Nat):Int):=fun u v hu hv=>by
         rw [show IntKind.wrap .i64 ((j:Int)+(v:Int))=((j+v:Nat):Int) by rw [wrap_i64 (by omega) (by omega)];omega,Int.tmod_eq_emod_of_nonneg (by omega),wrap_i64 (by omega) (by omega)];omega
       have e1:IntKind.wrap .i64 ((4:Int)+Int.tmod (IntKind.wrap .i64 ((j:Int)+1)) 4)=_:=e0 4 1 (by omega) (by omega)
       have e2:IntKind.wrap .i64 ((8:Int)+Int.tmod (IntKind.wrap .i64 ((j:Int)+2)) 4)=_:=e0 8 2 (by omega) (by omega)
       have e3:IntKind.wrap .i64 ((12:Int)+Int.tmod (IntKind.wrap .i64 ((j:Int)+3)) 4)=_:=e0 12 3 (by omega) (by omega)
       rw [e1,e2,e3,hw j (by omega)]
       refine step _ j (4+(j+1)%4) (8+(j+2)%4) (12+(j+3)%4) _ _ hS (by simp [hF]) (((hlF.cW k).wo 4).zS j) (by omega) (by omega) (by omega) (by omega) (by omega) (by omega) (by omega) (by omega) (by omega) (by omega) fun wb hb=>?_
       exact ⟨⟨j+1,rfl,by omega,hb⟩,by simp;omega⟩
     · have hj':j=4:=by simp at h;omega
       subst hj'
       rw [hw k (by omega)]
       exact ⟨⟨k+1,rfl,by omega,hS⟩,by simp;omega⟩
 · have hk':k=10:=by simp at h;omega
   subst hk'
   obtain ⟨g10,w10,r10,h10⟩:=hS.az zero64
   obtain ⟨O,hO⟩:∃O,uX (cW 10 F) F=O:=⟨_,rfl⟩
   have hOl:O.length=64:=by rw [←hO];simp
   rw [hO]
   have hm5:∀y,(Mx (cW 10 F)++ [Res.arr g10 368 (bv y)])[5]?=some (.arr g10 368 (bv y)):=fun y=>by rw [hMx];rfl
   have hm4:∀y,(Mx (cW 10 F)++ [Res.arr g10 368 (bv y)])[4]?=some (.arr g7 430 (kv .u32 (cW 10 F))):=fun y=>by rw [hMx];rfl
   have hm3:∀y,(Mx (cW 10 F)++ [Res.arr g10 368 (bv y)])[3]?=some (.arr g5 430 (kv .u32 F)):=fun y=>by rw [hMx];rfl
   have hm2:∀y,(Mx (cW 10 F)++ [Res.arr g10 368 (bv y)])[2]?=some (.arr g3 368 (bv (List.replicate 64 0))):=fun y=>by rw [hMx];rfl
   have hms:∀x y,(Mx (cW 10 F)++ [Res.arr g10 368 (bv x)]).set 5 (.arr g10 368 (bv y))=Mx (cW 10 F)++ [Res.arr g10 368 (bv y)]:=fun x y=>by rw [hMx];rfl
   refine ⟨_,_,r10,fun i w'=>∃k:Nat,i=(k:Int)∧k≤16∧St w [] w' (Mx (cW 10 F)++ [.arr g10 368 (bv (upTo O (4*k)))]),fun i _=>16-i.toNat,⟨0,rfl,by omega,by rw [Nat.mul_zero,pJ,hOl];exact h10⟩,?_⟩
   rintro i w11 ⟨k,rfl,hk16,hT⟩
   refine ⟨fun h=>?_,fun h=>?_⟩
   · have hk':k<16:=by simp at h;omega
     have e1:IntKind.wrap .i64 ((4:Int)*(k:Int))=((4*k:Nat):Int):=by rw [wrap_i64 (by omega) (by omega)];omega
     have e2:∀j:Nat,j<4→IntKind.wrap .i64 (((4*k:Nat):Int)+(j:Int))=((4*k+j:Nat):Int):=fun j hj=>by rw [wrap_i64 (by omega) (by omega)];omega
     have e21:=e2 1 (by omega)
     have e22:=e2 2 (by omega)
     have e23:=e2 3 (by omega)
     rw [show ((1:Nat):Int)=1 from rfl] at e21
     rw [show ((2:Nat):Int)=2 from rfl] at e22
     rw [show ((3:Nat):Int)=3 from rfl] at e23
     rw [e1,e21,e22,e23,hw k (by omega)]
     have ot:∀j,j<4→O[4*k+j]?=some (oZ (cW 10 F) F (4*k+j)):=fun j hj=>by rw [←hO];exact DX _ _ _ (by omega)
     have v0:IntKind.wrap .u8 (IntKind.wrap .u32 (((cW 10 F).getD k 0:Nat)+(F.getD k 0:Nat):Int))=((oZ (cW 10 F) F (4*k)).toNat:Int):=by
       rw [cZ];have:=xC (cW 10 F) F k 0 (by omega);simpa using this
     have vj:∀(j:Nat),j<4→IntKind.wrap .u8 (bK .u32 (IntKind.wrap .u32 (((cW 10 F).getD k 0:Nat)+(F.getD k 0:Nat):Int)) ((8*j:Nat):Int))=((oZ (cW 10 F) F (4*k+j)).toNat:Int):=fun j hj=>by
       rw [cZ,kZ _ _ _ (show 8*j≤32 by omega)];exact xC (cW 10 F) F k j hj
     have v1:IntKind.wrap .u8 (bK .u32 (IntKind.wrap .u32 (((cW 10 F).getD k 0:Nat)+(F.getD k 0:Nat):Int)) 8)=_:=vj 1 (by omega)
     have v2:IntKind.wrap .u8 (bK .u32 (IntKind.wrap .u32 (((cW 10 F).getD k 0:Nat)+(F.getD k 0:Nat):Int)) 16)=_:=vj 2 (by omega)
     have v3:IntKind.wrap .u8 (bK .u32 (IntKind.wrap .u32 (((cW 10 F).getD k 0:Nat)+(F.getD k 0:Nat):Int)) 24)=_:=vj 3 (by omega)
     refine ⟨fun w'=>St w [] w' (Mx (cW 10 F)++ [.arr g10 368 (bv (upTo O (4*k)))]),hT.drew,by omega,by omega,by omega,by omega,_,fun w' h=>h.ldK (hm4 _) (eU _) (ze k) (by simp [hF];omega),_,fun w' h=>h.ldK (hm3 _) (eU _) (ze k) (by omega),by omega,by omega,?_⟩
     rw [v0,v1,v2,v3]
     obtain ⟨w12,q1,s1⟩:=hT.drew.stB (b:=oZ (cW 10 F) F (4*k)) (hm5 _) (sB _) (ze (4*k)) (by rw [gK (by omega)];omega)
     rw [hms,gA (show O[4*k]?=some (oZ (cW 10 F) F (4*k)) from ot 0 (by omega))] at s1
     obtain ⟨w13,q2,s2⟩:=s1.stB (b:=oZ (cW 10 F) F (4*k+1)) (hm5 _) (sB _) (ze (4*k+1)) (by rw [gK (by omega)];omega)
     rw [hms,gA (ot 1 (by omega))] at s2
     obtain ⟨w14,q3,s3⟩:=s2.stB (b:=oZ (cW 10 F) F (4*k+2)) (hm5 _) (sB _) (ze (4*k+2)) (by rw [gK (by omega)];omega)
     rw [hms,gA (ot 2 (by omega))] at s3
     obtain ⟨w15,q4,s4⟩:=s3.stB (b:=oZ (cW 10 F) F (4*k+3)) (hm5 _) (sB _) (ze (4*k+3)) (by rw [gK (by omega)];omega)
     rw [hms,gA (ot 3 (by omega))] at s4
     exact ⟨w12,q1,by omega,by omega,w13,q2,by omega,by omega,w14,q3,by omega,by omega,w15,q4,⟨k+1,rfl,by omega,s4⟩,by simp;omega⟩
   · have hk':k=16:=by simp at h;omega
     subst hk'
     rw [show 4*16=O.length by omega,sj] at hT
     refine ⟨_,hT.ldA (hm5 _) (e64 _) (Tryz.sizeOf368 _) (by simp [hOl]),?_⟩
     obtain ⟨w12,q1,s1⟩:=hT.stA (v:=bv O) (hm2 _) (Tryz.sizeOf368 _) (by simp) (by simp [hOl]) (aG _)
     refine ⟨w12,q1,_,s1.bF (i:=2) (l:=bv O) (by rw [hMx];rfl) (e64 _) (Tryz.sizeOf368 _) (by simp [hOl]),rfl,s1.chg⟩

end Go.Proofs.YtpmhjnhgpplmnaaGreatDoor
end

section
namespace Go.Proofs.YtpmhjnhgpplmnaaGreatDoor
open Go Sx
set_option maxRecDepth 8000

theorem LR:(((((List.replicate 16 0).set 0 1634760805).set 1 857760878).set 2 2036477234).set 3 1797285236:List Nat)=[1634760805,857760878,2036477234,1797285236]++List.replicate 12 0:=by decide

theorem Hs (key nonce:List UInt8) (ctr:Nat):
   orW 13 nonce 12 (orW 4 key 32 (([1634760805,857760878,2036477234,1797285236]++List.replicate 12 0).set 12 ctr))=jc key ctr nonce:=by
 have z:∀j,4≤j→j<16→j≠12→(([1634760805,857760878,2036477234,1797285236]++List.replicate 12 0:List Nat).set 12 ctr).getD j 0=0:=by
   intro j h1 h2 h3
   rw [getD_set_ne (fun e=>h3 e.symm)]
   have:∀j<16,4≤j→([1634760805,857760878,2036477234,1797285236]++List.replicate 12 0:List Nat).getD j 0=0:=by decide
   exact this j h2 h1
 have h1:=wZ 4 key (([1634760805,857760878,2036477234,1797285236]++List.replicate 12 0:List Nat).set 12 ctr) 8 (by simp) (fun j h1 h2=>z j h1 (by omega) (by omega))
 rw [show 4*8=32 from rfl] at h1
 rw [h1]
 have h2:=wZ 13 nonce (jE 4 key 8 (([1634760805,857760878,2036477234,1797285236]++List.replicate 12 0:List Nat).set 12 ctr)) 3 (by simp) (fun j h1 h2=>by
   rw [xe _ _ _ _ _ (by omega)];exact z j (by omega) (by omega) (by omega))
 rw [show 4*3=12 from rfl] at h2
 have sw:∀(k:Nat) (l:List Nat),4+k≤12→jE 4 key k (l.set 12 ctr)=(jE 4 key k l).set 12 ctr:=by
   intro k
   induction k with
   | zero=>intro l _;rfl
   | succ k ih=>
     intro l hk
     rw [jE,jE,ih l (by omega),List.set_comm _ _ (by omega)]
 rw [h2,sw 8 _ (by omega),jc]

theorem D3 (key nonce:List UInt8) (ctr:Nat) (w:World) (hk:key.length=32) (hn:nonce.length=12) (hc:ctr<4294967296):
   Calls Tryz.prog 273 #[.agg (bv key).toArray,.int .u32 (ctr:Int),.agg (bv nonce).toArray] w fun e w'=>e=.returned (.agg (bv (dD key ctr nonce)).toArray)∧Chg [] w w':=by
 apply nP
 have hw:∀i:Nat,i<100→IntKind.wrap .i64 ((i:Int)+1)=((i+1:Nat):Int):=fun i h=>by rw [wrap_i64 (by omega) (by omega)];rfl
 have ze:∀k:Nat,0+Int.toNat (k:Int)*1=k:=fun k=>by omega
 have sU:∀w,(sizeOf 370).run Tryz.prog w=.ok 1 w:=fun w=>Tryz.sizeOf370 w
 have sB:∀w,(sizeOf 5).run Tryz.prog w=.ok 1 w:=fun w=>Tryz.sizeOf5 w
 have s16:∀w,(sizeOf 430).run Tryz.prog w=.ok 16 w:=fun w=>Tryz.sizeOf430 w
 have s64:∀w,(sizeOf 368).run Tryz.prog w=.ok 64 w:=fun w=>Tryz.sizeOf368 w
 obtain ⟨g1,w1,r1,h1⟩:=(St.start w).b7 (P:=Tryz.prog) 39 (bv key)
 obtain ⟨g2,w2,r2,h2⟩:=h1.b7 (P:=Tryz.prog) 287 (bv nonce)
 obtain ⟨g3,w3,r3,h3⟩:=h2.az zero64
 have hb:=dx (P:=Tryz.prog) (w:=w3) (oC w3) Tryz.underlying430 (sU _) [] (by simp) (by simp)
 obtain ⟨g4,w4,r4,h4⟩:=h3.az oC
 obtain ⟨w5,r5,h5⟩:=h4.stA (i:=3) (v:=kv .u32 (List.replicate 16 0)) rfl (s16 _) (by simp) (by simp) (eN _ _)
 obtain ⟨w6,r6,h6⟩:=h5.stK (i:=3) (off:=0) (o:=0) (n:=1634760805) rfl (sU _) rfl (by simp)
 obtain ⟨w7,r7,h7⟩:=h6.stK (i:=3) (off:=1) (o:=1) (n:=857760878) rfl (sU _) rfl (by simp)
 obtain ⟨w8,r8,h8⟩:=h7.stK (i:=3) (off:=2) (o:=2) (n:=2036477234) rfl (sU _) rfl (by simp)
 obtain ⟨w9,r9,h9⟩:=h8.stK (i:=3) (off:=3) (o:=3) (n:=1797285236) rfl (sU _) rfl (by simp)
 obtain ⟨w10,r10,h10⟩:=h9.stK (i:=3) (off:=12) (o:=12) (n:=ctr) rfl (sU _) rfl (by simp)
 rw [LR] at h10
 refine ⟨_,_,r1,_,_,r2,_,_,r3,_,hb,_,_,r4,_,r5,_,r6,_,r7,_,r8,_,r9,_,r10,?_⟩
 obtain ⟨C0,hC0⟩:∃C0,([1634760805,857760878,2036477234,1797285236]++List.replicate 12 0:List Nat).set 12 ctr=C0:=⟨_,rfl⟩
 have hC0l:C0.length=16:=by rw [←hC0];simp
 have hC0t:b9 C0:=by rw [←hC0];exact yh.set 12 hc
 obtain ⟨Mx,hMx⟩:∃Mx:List Nat→List Res,Mx=fun x=>[.arr g1 39 (bv key),.arr g2 287 (bv nonce),.arr g3 368 (bv (List.replicate 64 0)),.arr g4 430 (kv .u32 x)]:=⟨_,rfl⟩
 have hi0:∀x,(Mx x)[0]?=some (.arr g1 39 (bv key)):=fun x=>by rw [hMx];rfl
 have hi1:∀x,(Mx x)[1]?=some (.arr g2 287 (bv nonce)):=fun x=>by rw [hMx];rfl
 have hi3:∀x,(Mx x)[3]?=some (.arr g4 430 (kv .u32 x)):=fun x=>by rw [hMx];rfl
 have hset:∀x y,(Mx x).set 3 (.arr g4 430 (kv .u32 y))=Mx y:=fun x y=>by rw [hMx];rfl
 have h10':St w [] w10 (Mx C0):=by rw [hMx,←hC0];exact h10
 have ed:∀i:Nat,i<100→IntKind.wrap .i64 (Int.tdiv (i:Int) 4)=((i / 4:Nat):Int):=fun i hi=>by rw [Int.tdiv_eq_ediv_of_nonneg (by omega),wrap_i64 (by omega) (by omega)];omega
 have em:∀i:Nat,IntKind.wrap .u64 (Int.tmod (i:Int) 4)=((i%4:Nat):Int):=fun i=>by rw [Int.tmod_eq_emod_of_nonneg (by omega),wrap_u64];omega
 have e8:∀j:Nat,j<4→IntKind.wrap .u64 ((8:Int)*(j:Int))=((8*j:Nat):Int):=fun j hj=>by rw [wrap_u64];omega
 have ea:∀b j:Nat,b<100→j<100→IntKind.wrap .i64 ((b:Int)+(j:Int))=((b+j:Nat):Int):=fun b j hb hj=>by rw [wrap_i64 (by omega) (by omega)];omega
 have vor:∀(x:Nat) (b:UInt8) (j:Nat),x<4294967296→j<4→bor .u32 (x:Int) (cG .u32 (IntKind.wrap .u32 (b.toNat:Int)) ((8*j:Nat):Int))=((x||| b.toNat*2^(8*j)%4294967296:Nat):Int):=fun x b j hx hj=>by
   have:=b.toNat_lt
   rw [bU (by omega),jj (by omega),or_val hx (Nat.mod_lt _ (by decide))]
 refine ⟨fun i w'=>∃k:Nat,i=(k:Int)∧k≤32∧St w [] w' (Mx (orW 4 key k C0)),fun i _=>32-i.toNat,⟨0,rfl,by omega,h10'⟩,?_⟩
 rintro i w11 ⟨k,rfl,hk32,hS⟩
 refine ⟨fun h=>?_,fun h=>?_⟩
 · have hk':k<32:=by simp at h;omega
   have e4:IntKind.wrap .i64 ((4:Int)+((k / 4:Nat):Int))=_:=ea 4 (k / 4) (by omega) (by omega)
   rw [ed k (by omega),e4,em,e8 _ (by omega),hw k (by omega)]
   have ht:=hC0t.orW 4 key k
   refine ⟨fun w'=>St w [] w' (Mx (orW 4 key k C0)),hS.drew,by omega,by omega,by omega,by omega,_,fun w' h=>h.ldK (hi3 _) (eU _) (ze (4+k / 4)) (by rw [mT];omega),_,fun w' h=>h.ldB (hi0 _) (bA _) (ze k) (by omega),by omega,by omega,by omega,?_⟩
   rw [vor _ _ _ (ht _) (by omega)]
   obtain ⟨w12,q,s⟩:=hS.drew.stK (n:=(orW 4 key k C0).getD (4+k / 4) 0||| (key.getD k 0).toNat*2^(8*(k%4))%4294967296) (hi3 _) (sU _) (ze (4+k / 4)) (by rw [mT];omega)
   rw [hset] at s
   exact ⟨w12,q,⟨k+1,rfl,by omega,s⟩,by simp;omega⟩
 · have hk':k=32:=by simp at h;omega
   subst hk'
   refine ⟨fun i w'=>∃k:Nat,i=(k:Int)∧k≤12∧St w [] w' (Mx (orW 13 nonce k (orW 4 key 32 C0))),fun i _=>12-i.toNat,⟨0,rfl,by omega,hS⟩,?_⟩
   rintro i w13 ⟨k,rfl,hk12,hS⟩
   refine ⟨fun h=>?_,fun h=>?_⟩
   · have hk':k<12:=by simp at h;omega
     have e4:IntKind.wrap .i64 ((13:Int)+((k / 4:Nat):Int))=_:=ea 13 (k / 4) (by omega) (by omega)
     rw [ed k (by omega),e4,em,e8 _ (by omega),hw k (by omega)]
     have ht:=(hC0t.orW 4 key 32).orW 13 nonce k
     refine ⟨fun w'=>St w [] w' (Mx (orW 13 nonce k (orW 4 key 32 C0))),hS.drew,by omega,by omega,by omega,by omega,_,fun w' h=>h.ldK (hi3 _) (eU _) (ze (13+k / 4)) (by rw [mT,mT];omega),_,fun w' h=>h.ldB (hi1 _) (bA _) (ze k) (by omega),by omega,by omega,by omega,?_⟩
     rw [vor _ _ _ (ht _) (by omega)]
     obtain ⟨w14,q,s⟩:=hS.drew.stK (n:=(orW 13 nonce k (orW 4 key 32 C0)).getD (13+k / 4) 0||| (nonce.getD k 0).toNat*2^(8*(k%4))%4294967296) (hi3 _) (sU _) (ze (13+k / 4)) (by rw [mT,mT];omega)
     rw [hset] at s
     exact ⟨w14,q,⟨k+1,rfl,by omega,s⟩,by simp;omega⟩
   · have hk':k=12:=by simp at h;omega
     subst hk'
     have hfa:=Hs key nonce ctr
     rw [hC0] at hfa
     have hF:=yT key ctr nonce
     have hlF:=yf key nonce hc
     obtain ⟨F,hFd⟩:∃F,jc key ctr nonce=F:=⟨_,rfl⟩
     have hB:dD key ctr nonce=uX F (cW 10 F):=by rw [dD,hFd,HV]
     rw [hB]
     rw [hfa] at hS
     rw [hFd] at hF hlF hS
     obtain ⟨g5,w15,r15,h15⟩:=hS.az oC
     have m4:∀x y,(Mx x++ [Res.arr g5 430 (kv .u32 y)])[4]?=some (.arr g5 430 (kv .u32 y)):=fun x y=>by rw [hMx];rfl
     have m3:∀x y,(Mx x++ [Res.arr g5 430 (kv .u32 y)])[3]?=some (.arr g4 430 (kv .u32 x)):=fun x y=>by rw [hMx];rfl
     have ms:∀x y z,(Mx x++ [Res.arr g5 430 (kv .u32 y)]).set 4 (.arr g5 430 (kv .u32 z))=Mx x++ [Res.arr g5 430 (kv .u32 z)]:=fun x y z=>by rw [hMx];rfl
     obtain ⟨w16,r16,h16⟩:=h15.stA (v:=kv .u32 F) (m4 _ _) (s16 _) (by simp) (by simp [hF]) (eN _ _)
     rw [ms] at h16
     refine ⟨_,hS.ldA (hi3 _) (e16 _) (s16 _) (by simp [hF]),_,_,r15,_,r16,?_⟩
     have rs:∀(x:List Nat) (a b c d:Nat) (wa:World) (K:Ending→World→Prop),St w [] wa (Mx F++ [Res.arr g5 430 (kv .u32 x)])→x.length=16→b9 x→a<16→b<16→c<16→d<16→
         (∀wb,St w [] wb (Mx F++ [Res.arr g5 430 (kv .u32 (rnd x a b c d))])→K (.returned (.tuple #[])) wb)→
         Calls Tryz.prog 329 #[.pointer (some ⟨g5,0,none⟩),.int .i64 (a:Int),.int .i64 (b:Int),.int .i64 (c:Int),.int .i64 (d:Int)] wa K:=by
       intro x a b c d wa K hS hx hlx ha hb hc hd hK
       refine (Fl g5 _ x a b c d wa (hS.holds 4 _ (m4 _ _)) hx hlx ha hb hc hd).mono ?_
       rintro e wb ⟨rfl,hcb,hgb⟩
       refine hK wb ?_
       have:=hS.upd (m4 _ _) (w':=wb) (r':=.arr g5 430 (kv .u32 (rnd x a b c d))) hcb hgb (by simp [Res.fp])
       rw [ms] at this
       exact this
     refine ⟨fun i w'=>∃k:Nat,i=(k:Int)∧k≤10∧St w [] w' (Mx F++ [Res.arr g5 430 (kv .u32 (cW k F))]),fun i _=>10-i.toNat,⟨0,rfl,by omega,h16⟩,?_⟩
     rintro i w17 ⟨k,rfl,hk10,hS⟩
     refine ⟨fun h=>?_,fun h=>?_⟩
     · have hk':k<10:=by simp at h;omega
       have ht:=hlF.cW k
       have hl0:(cW k F).length=16:=by simp [hF]
       refine rs (cW k F) 0 4 8 12 _ _ hS hl0 ht (by decide) (by decide) (by decide) (by decide) fun w18 h18=>⟨rfl,?_⟩
       have t1:=ht.rnd 0 4 8 12
       refine rs _ 1 5 9 13 _ _ h18 (by simp [hF]) t1 (by decide) (by decide) (by decide) (by decide) fun w19 h19=>⟨rfl,?_⟩
       have t2:=t1.rnd 1 5 9 13
       refine rs _ 2 6 10 14 _ _ h19 (by simp [hF]) t2 (by decide) (by decide) (by decide) (by decide) fun w20 h20=>⟨rfl,?_⟩
       have t3:=t2.rnd 2 6 10 14
       refine rs _ 3 7 11 15 _ _ h20 (by simp [hF]) t3 (by decide) (by decide) (by decide) (by decide) fun w21 h21=>⟨rfl,?_⟩
       have t4:=t3.rnd 3 7 11 15
       refine rs _ 0 5 10 15 _ _ h21 (by simp [hF]) t4 (by decide) (by decide) (by decide) (by decide) fun w22 h22=>⟨rfl,?_⟩
       have t5:=t4.rnd 0 5 10 15
       refine rs _ 1 6 11 12 _ _ h22 (by simp [hF]) t5 (by decide) (by decide) (by decide) (by decide) fun w23 h23=>⟨rfl,?_⟩
       have t6:=t5.rnd 1 6 11 12
       refine rs _ 2 7 8 13 _ _ h23 (by simp [hF]) t6 (by decide) (by decide) (by decide) (by decide) fun w24 h24=>⟨rfl,?_⟩
       have t7:=t6.rnd 2 7 8 13
       refine rs _ 3 4 9 14 _ _ h24 (by simp [hF]) t7 (by decide) (by decide) (by decide) (by decide) fun w25 h25=>⟨rfl,?_⟩
       rw [hw k (by omega)]
       exact ⟨⟨k+1,rfl,by omega,h25⟩,by simp;omega⟩
     · have hk':k=10:=by simp at h;omega
       subst hk'
       have hb64:=dx (P:=Tryz.prog) (w:=w17) (zero64 w17) Tryz.underlying368 (sB _) [] (by simp) (by simp)
       obtain ⟨g6,w18,r18,h18⟩:=hS.az zero64
       obtain ⟨O,hO⟩:∃O,uX F (cW 10 F)=O:=⟨_,rfl⟩
       have hOl:O.length=64:=by rw [←hO];simp
       rw [hO]
       obtain ⟨Nx,hNx⟩:∃Nx:List UInt8→List Res,Nx=fun y=>Mx F++ [Res.arr g5 430 (kv .u32 (cW 10 F))]++ [Res.arr g6 368 (bv y)]:=⟨_,rfl⟩
       have n5:∀y,(Nx y)[5]?=some (.arr g6 368 (bv y)):=fun y=>by rw [hNx,hMx];rfl
       have n4:∀y,(Nx y)[4]?=some (.arr g5 430 (kv .u32 (cW 10 F))):=fun y=>by rw [hNx,hMx];rfl
       have n3:∀y,(Nx y)[3]?=some (.arr g4 430 (kv .u32 F)):=fun y=>by rw [hNx,hMx];rfl
       have n2:∀y,(Nx y)[2]?=some (.arr g3 368 (bv (List.replicate 64 0))):=fun y=>by rw [hNx,hMx];rfl
       have ns:∀x y,(Nx x).set 5 (.arr g6 368 (bv y))=Nx y:=fun x y=>by rw [hNx,hMx];rfl
       have h18':St w [] w18 (Nx (List.replicate 64 0)):=by rw [hNx];exact h18
       obtain ⟨w19,r19,h19⟩:=h18'.stA (v:=bv (List.replicate 64 0)) (n5 _) (s64 _) (by simp) (by simp) (aG _)
       rw [ns] at h19
       refine ⟨_,hb64,_,_,r18,_,r19,fun i w'=>∃k:Nat,i=(k:Int)∧k≤64∧St w [] w' (Nx (upTo O k)),fun i _=>64-i.toNat,⟨0,rfl,by omega,by rw [pJ,hOl];exact h19⟩,?_⟩
       rintro i w20 ⟨k,rfl,hk64,hT⟩
       refine ⟨fun h=>?_,fun h=>?_⟩
       · have hk':k<64:=by simp at h;omega
         rw [ed k (by omega),em,e8 _ (by omega),hw k (by omega)]
         have ov:IntKind.wrap .u8 (bK .u32 (IntKind.wrap .u32 ((F.getD (k / 4) 0:Nat)+((cW 10 F).getD (k / 4) 0:Nat):Int)) ((8*(k%4):Nat):Int))=((oZ F (cW 10 F) k).toNat:Int):=by
           rw [cZ,kZ _ _ _ (show 8*(k%4)≤32 by omega),xC F (cW 10 F) (k / 4) (k%4) (by omega),show 4*(k / 4)+k%4=k by omega]
         refine ⟨fun w'=>St w [] w' (Nx (upTo O k)),hT.drew,by omega,by omega,by omega,by omega,_,fun w' h=>h.ldK (n3 _) (eU _) (ze (k / 4)) (by omega),_,fun w' h=>h.ldK (n4 _) (eU _) (ze (k / 4)) (by simp [hF];omega),by omega,by omega,by omega,?_⟩
         rw [ov]
         obtain ⟨w21,q,s⟩:=hT.drew.stB (b:=oZ F (cW 10 F) k) (n5 _) (sB _) (ze k) (by rw [gK (by omega)];omega)
         rw [ns,gA (by rw [←hO];exact DX _ _ _ hk')] at s
         exact ⟨w21,q,⟨k+1,rfl,by omega,s⟩,by simp;omega⟩
       · have hk':k=64:=by simp at h;omega
         subst hk'
         rw [show 64=O.length by omega,sj] at hT
         refine ⟨_,hT.ldA (n5 _) (e64 _) (s64 _) (by simp [hOl]),?_⟩
         obtain ⟨w22,q,s⟩:=hT.stA (v:=bv O) (n2 _) (s64 _) (by simp) (by simp [hOl]) (aG _)
         refine ⟨w22,q,_,s.bF (i:=2) (l:=bv O) (by rw [hNx,hMx];rfl) (e64 _) (s64 _) (by simp [hOl]),rfl,s.chg⟩

end Go.Proofs.YtpmhjnhgpplmnaaGreatDoor
end

section
namespace Go.Proofs.YtpmhjnhgpplmnaaGreatDoor
open Go Sx
set_option maxRecDepth 8000

def Nj (key nonce:List UInt8) (p:Nat):UInt8:=(dD key (p / 64) nonce).getD (p%64) 0
def sJ (key nonce:List UInt8) (at':Nat) (l:List UInt8):List UInt8:=l.mapIdx fun i b=>b^^^Nj key nonce (at'+i)
@[simp] theorem Dm (key nonce:List UInt8) (at':Nat) (l:List UInt8):(sJ key nonce at' l).length=l.length:=by simp [sJ]
theorem D8 {key nonce:List UInt8} {at':Nat} {l:List UInt8} {i:Nat} (h:i<l.length):(sJ key nonce at' l)[i]?=some (l.getD i 0^^^Nj key nonce (at'+i)):=by simp [sJ,List.getD,h]

def mix (x l:List UInt8) (i:Nat):List UInt8:=x.take i++l.drop i
theorem KO (x l:List UInt8):mix x l 0=l:=by simp [mix]
theorem LW {x l:List UInt8} {n:Nat} (h:x.length=n) (h':l.length=n):mix x l n=x:=by simp [mix,←h,show l.length=x.length by omega]
theorem L4 {x l:List UInt8} {i:Nat} (h:x.length=l.length) (hi:i≤l.length):(mix x l i).length=l.length:=by simp [mix];omega
theorem Mb {x l:List UInt8} {i:Nat} (h:x.length=l.length) (hi:i<l.length):(mix x l i).getD i 0=l.getD i 0:=by
 have hl:(x.take i).length=i:=by rw [List.length_take];omega
 simp [mix,List.getD,List.getElem?_append_right,hl]
theorem LO {x l:List UInt8} {i:Nat} {b:UInt8} (h:x.length=l.length) (hb:x[i]?=some b):(mix x l i).set i b=mix x l (i+1):=by
 have hi:i<x.length:=(List.getElem?_eq_some_iff.1 hb).1
 have hl:(x.take i).length=i:=by rw [List.length_take];omega
 rw [mix,mix,List.set_append_right _ _ (by omega),hl,Nat.sub_self,List.drop_eq_getElem_cons (by omega:i<l.length),List.set_cons_zero,List.take_add_one,hb]
 simp

theorem JW (a b:UInt8):aN .u8 (a.toNat:Int) (b.toNat:Int)=((a^^^b).toNat:Int):=by
 rw [oU rfl (by simpa [eA,IntKind.bits] using a.toNat_lt) (by simpa [eA,IntKind.bits] using b.toNat_lt),UInt8.toNat_xor]

theorem Sx.Chg.range {w w':World} {X:List Nat} {b o:Nat} {cs:List Value} (hc:Chg X w w') (h:w.rangeAt b o cs) (hb:b∉X):w'.rangeAt b o cs:=by
 have hk:Cells w (some ⟨b,o,none⟩) cs:=.inr ⟨b,o,rfl,h⟩
 rcases hk.keep hc (by rintro ad ⟨⟩;exact hb) with h0 | ⟨b',o',he,hr⟩
 · subst h0;intro j v hj;simp at hj
 · simp only [Option.some.injEq,Addr.mk.injEq,and_true] at he
   obtain ⟨rfl,rfl⟩:=he
   exact hr

theorem Sx.St.Ng {w:World} {e:TypeId} {sz:Nat} {g n m c:Nat} {xs:List Value} (h:w.ownsRow 0 e sz (.slice (some ⟨g,0,none⟩) n c) m xs):St w [g] w [.row e sz (.slice (some ⟨g,0,none⟩) n c) m xs]:=by
 have one:∀(i:Nat) (r:Res),[Res.row e sz (.slice (some ⟨g,0,none⟩) n c) m xs][i]?=some r→i=0∧r=.row e sz (.slice (some ⟨g,0,none⟩) n c) m xs:=by
   intro i r hr
   cases i with
   | zero=>exact ⟨rfl,(Option.some.inj hr).symm⟩
   | succ i=>simp at hr
 refine ⟨Chg.refl _ _,?_,?_,?_⟩
 · intro i r hr;obtain ⟨_,rfl⟩:=one i r hr;exact h
 · intro i r hr k hk;obtain ⟨_,rfl⟩:=one i r hr;right;simpa [Res.fp,Value.ownBlock] using hk
 · intro i j r s hij hi hj;have:=(one i r hi).1;have:=(one j s hj).1;omega

theorem zU (gs o g n c at':Nat) (key nonce l:List UInt8) (w:World) (hk:key.length=32) (hn:nonce.length=12) (rk:w.rangeAt gs o (bv key)) (rn:w.rangeAt gs (o+32) (bv nonce)) (hne:gs≠g)
   (hrow:w.ownsRow 0 5 1 (.slice (some ⟨g,0,none⟩) n c) n (bv l)) (hat:at'+n≤274877906944):
   Calls Tryz.prog 328 #[.pointer (some ⟨gs,o,none⟩),.int .i64 (at':Int),.slice (some ⟨g,0,none⟩) n c] w fun e w'=>e=.returned (.tuple #[])∧Chg [g] w w'∧w'.ownsRow 0 5 1 (.slice (some ⟨g,0,none⟩) n c) n (bv (sJ key nonce at' l)):=by
 apply qg
 have hl:l.length=n:=by have:=hrow.1;simpa using this
 have ze:∀k:Nat,0+Int.toNat (k:Int)*1=k:=fun k=>by omega
 have sB:∀w,(sizeOf 5).run Tryz.prog w=.ok 1 w:=fun w=>Tryz.sizeOf5 w
 have s64:∀w,(sizeOf 368).run Tryz.prog w=.ok 64 w:=fun w=>Tryz.sizeOf368 w
 have s32:∀w,(sizeOf 39).run Tryz.prog w=.ok 32 w:=fun w=>Tryz.sizeOf39 w
 have s12:∀w,(sizeOf 287).run Tryz.prog w=.ok 12 w:=fun w=>Tryz.sizeOf287 w
 obtain ⟨X,hX⟩:∃X,sJ key nonce at' l=X:=⟨_,rfl⟩
 have hXl:X.length=l.length:=by rw [←hX];simp
 rw [hX]
 obtain ⟨g6,w1,r1,h1⟩:=(St.Ng hrow).az zero64
 obtain ⟨M,hM⟩:∃M:List UInt8→List UInt8→List Res,M=fun x B=>[.row 5 1 (.slice (some ⟨g,0,none⟩) n c) n (bv x),.arr g6 368 (bv B)]:=⟨_,rfl⟩
 have i0:∀x B,(M x B)[0]?=some (.row 5 1 (.slice (some ⟨g,0,none⟩) n c) n (bv x)):=fun x B=>by rw [hM];rfl
 have i1:∀x B,(M x B)[1]?=some (.arr g6 368 (bv B)):=fun x B=>by rw [hM];rfl
 have q0:∀x B y,(M x B).set 0 (.row 5 1 (.slice (some ⟨g,0,none⟩) n c) n (bv y))=M y B:=fun x B y=>by rw [hM];rfl
 have q1:∀x B y,(M x B).set 1 (.arr g6 368 (bv y))=M x y:=fun x B y=>by rw [hM];rfl
 have h1':St w [g] w1 (M (mix X l 0) (List.replicate 64 0)):=by rw [hM,KO];exact h1
 refine ⟨_,_,r1,fun x y w'=>∃(i:Nat) (B:List UInt8),y=(i:Int)∧i≤n∧B.length=64∧(x= -1∨∃h:Nat,x=(h:Int)∧B=dD key h nonce)∧St w [g] w' (M (mix X l i) B),fun _ y _=>n-y.toNat,
   ⟨0,_,rfl,by omega,by simp,.inl rfl,h1'⟩,?_⟩
 rintro x y w2 ⟨i,B,rfl,hi,hBl,hB,hS⟩
 refine ⟨fun h=>?_,fun h=>?_⟩
 · have hi':i<n:=by simp at h;omega
   have ea:IntKind.wrap .i64 ((at':Int)+(i:Int))=((at'+i:Nat):Int):=by rw [wrap_i64 (by omega) (by omega)];omega
   have ed:IntKind.wrap .i64 (Int.tdiv ((at'+i:Nat):Int) 64)=(((at'+i) / 64:Nat):Int):=by rw [Int.tdiv_eq_ediv_of_nonneg (by omega),wrap_i64 (by omega) (by omega)];omega
   have em:Int.tmod ((at'+i:Nat):Int) 64=(((at'+i)%64:Nat):Int):=by rw [Int.tmod_eq_emod_of_nonneg (by omega)];omega
   have ew:IntKind.wrap .u32 (((at'+i) / 64:Nat):Int)=(((at'+i) / 64:Nat):Int):=bU (by omega)
   have e1:IntKind.wrap .i64 ((i:Int)+1)=((i+1:Nat):Int):=by rw [wrap_i64 (by omega) (by omega)];rfl
   rw [ea,ed,em,ew,e1]
   refine ⟨fun x' w'=>x'=(((at'+i) / 64:Nat):Int)∧St w [g] w' (M (mix X l i) (dD key ((at'+i) / 64) nonce)),⟨fun hd=>?_,fun hd=>?_⟩,?_⟩
   · have kd:=fun (w':World) (h:St w [g] w' (M (mix X l i) B))=>h.chg.range rk (by simp [hne])
     have nd:=fun (w':World) (h:St w [g] w' (M (mix X l i) B))=>h.chg.range rn (by simp [hne])
     refine ⟨fun w'=>St w [g] w' (M (mix X l i) B),hS.drew,_,fun w' h=>A5 (kd w' h) (e32 _) (s32 _) (by simp [hk]),_,fun w' h=>A5 (nd w' h) (e12 _) (s12 _) (by simp [hn]),(FK key nonce ((at'+i) / 64) _ hk hn (by omega)).mono ?_⟩
     rintro e w3 ⟨rfl,hc3⟩
     obtain ⟨w4,r4,h4⟩:=(hS.drew.same hc3).stA (v:=bv (dD key ((at'+i) / 64) nonce)) (i1 _ _) (s64 _) (by simp [hBl]) (by simp) (aG _)
     rw [q1] at h4
     exact ⟨_,rfl,fun w'=>St w [g] w' (M (mix X l i) B),fun _ h=>h,hS.drew.same hc3,w4,r4,rfl,h4⟩
   · have hx:x=(((at'+i) / 64:Nat):Int):=by simp at hd;exact hd.symm
     rcases hB with h0 | ⟨h',h0,hBh⟩
     · omega
     · have:h'=(at'+i) / 64:=by omega
       rw [this] at hBh
       exact ⟨hx,by rw [←hBh];exact hS⟩
   · rintro x' w5 ⟨rfl,h5⟩
     have hlt:(at'+i)%64<64:=Nat.mod_lt _ (by decide)
     have hml:=L4 hXl (show i≤l.length by omega)
     have ldm:∀w',St w [g] w' (M (mix X l i) (dD key ((at'+i) / 64) nonce))→(Instr.loadAt 5 (.pointer (some ⟨g,0+Int.toNat (i:Int)*1,none⟩))).run Tryz.prog w'=.ok (.int .u8 ((l.getD i 0).toNat:Int)) w':=fun w' h=>by
       have hc:=h.cells (i0 _ _)
       have hv:(bv (mix X l i))[i]?=some (.int .u8 ((l.getD i 0).toNat:Int)):=by rw [tM (by omega),Mb hXl (by omega)]
       obtain ⟨b,o',he,hcell⟩:=hc.at_ hv
       simp only [Option.some.injEq,Addr.mk.injEq,and_true] at he
       obtain ⟨rfl,rfl⟩:=he
       rw [show 0+Int.toNat (i:Int)*1=0+i by omega]
       exact ld1 (bA _) hcell
     refine ⟨fun w'=>St w [g] w' (M (mix X l i) (dD key ((at'+i) / 64) nonce)),h5.drew,g,0,rfl,by omega,by omega,by omega,by omega,_,ldm,_,fun w' h=>h.ldB (i1 _ _) (bA _) (ze ((at'+i)%64)) (by simpa using hlt),g,0,rfl,by omega,by omega,?_⟩
     rw [JW,show 0+Int.toNat (i:Int)*1=i by omega]
     obtain ⟨w6,r6,h6⟩:=h5.drew.Kj (v:=.int .u8 ((l.getD i 0^^^(dD key ((at'+i) / 64) nonce).getD ((at'+i)%64) 0).toNat:Int)) (i0 _ _) (sB _) hi' rfl
     rw [xH,q0,LO hXl (by rw [←hX];exact D8 (by omega))] at h6
     exact ⟨w6,r6,⟨i+1,_,rfl,by omega,by simp,.inr ⟨_,rfl,rfl⟩,h6⟩,by simp;omega⟩
 · have hi':i=n:=by simp at h;omega
   subst hi'
   rw [LW (by omega) (by omega)] at hS
   exact ⟨rfl,hS.chg,hS.holds 0 _ (i0 _ _)⟩

def jC (x:Int) (n:Nat):Bool:=decide (0≤x)&&decide (x+n≤274877906944)
def Ch (x:Int) (n:Nat):Option Int:=if jC x n then none else some 8
def zw (key nonce:List UInt8) (x:Int) (l:List UInt8):List UInt8:=if jC x l.length then sJ key nonce x.toNat l else []

theorem IV (x:Int) (n:Nat) (w:World) (h1: -9223372036854775808≤x) (h2:x≤9223372036854775807) (hn:n≤9223372036854775807):Calls Tryz.prog 327 #[.int .i64 x,.int .i64 (n:Int)] w fun e w'=>e=.returned (.bool (jC x n))∧w'=w:=by
 apply wX
 refine ⟨?_,rfl⟩
 have:(((decide (x≥(0:Int)))&&(decide (x≤(274877906944:Int))))&&(decide ((n:Int)≤(IntKind.wrap .i64 ((274877906944:Int)-x)))))=jC x n:=by
   by_cases h0:0≤x
   · rw [wrap_i64 (by omega) (by omega)]
     simp only [jC]
     rw [Bool.eq_iff_iff]
     simp only [Bool.and_eq_true,decide_eq_true_eq]
     omega
   · simp [jC,h0]
 rw [this]

theorem Ga:Tryz.prog.built 428=fun parts=>Instr.fill (fun i=>(#[(0,32),(32,12)]:Array (Nat×Nat))[i]?) (bv (List.replicate 44 0)).toArray parts:=by kernel_rfl

theorem F8 (key nonce:List UInt8) (hk:key.length=32) (hn:nonce.length=12) (w:World):(Instr.build 428 #[(0,.agg (bv key).toArray),(1,.agg (bv nonce).toArray)]).run Tryz.prog w=.ok (.agg (bv key++bv nonce).toArray) w:=by
 apply run_build
 rw [Ga]
 show Instr.fill _ _ [(0,.agg (bv key).toArray),(1,.agg (bv nonce).toArray)]=_
 rw [aA (off:=0) (sz:=32) rfl (by simp [Value.cells,hk]) (by simp),aA (off:=32) (sz:=12) rfl (by simp [Value.cells,hn]) (by simp [Value.cells,hk])]
 simp [Instr.fill,Value.cells,hk,hn]

theorem J3 (key nonce:List UInt8) (x:Int) (a:Option Addr) (n c:Nat) (l:List UInt8) (w:World) (hk:key.length=32) (hn:nonce.length=12) (h1: -9223372036854775808≤x) (h2:x≤9223372036854775807) (hr:RdB w a n c l) (hb:n≤9223372036854775807):
   Calls Tryz.prog 272 #[.agg (bv key).toArray,.agg (bv nonce).toArray,.int .i64 x,.slice a n c] w fun e w'=>∃a' n' c',e=.returned (.tuple #[.slice a' n' c',bk (Ch x n)])∧aS w w' a' n' c' (zw key nonce x l):=by
 have hl:=hr.bh
 apply zn
 have s32:∀w,(sizeOf 39).run Tryz.prog w=.ok 32 w:=fun w=>Tryz.sizeOf39 w
 have s12:∀w,(sizeOf 287).run Tryz.prog w=.ok 12 w:=fun w=>Tryz.sizeOf287 w
 obtain ⟨g1,w1,r1,k1⟩:=(St.start w).b7 (P:=Tryz.prog) 39 (bv key)
 obtain ⟨g2,w2,r2,k2⟩:=k1.b7 (P:=Tryz.prog) 287 (bv nonce)
 refine ⟨_,_,r1,_,_,r2,(IV x n w2 h1 h2 hb).mono ?_⟩
 rintro e w3 ⟨rfl,rfl⟩
 refine ⟨_,rfl,fun h=>?_,fun h=>?_⟩
 · have hf:jC x n=false:=by simpa using h
   refine ⟨none,0,0,by simp [Ch,hf,bk],?_⟩
   rw [zw,hl,hf]
   exact ⟨k2.chg,rfl,World.ownsRow_nil _ _ _ _⟩
 · have hf:jC x n=true:=by simpa using h
   have hx0:0≤x∧x+n≤274877906944:=by simpa [jC] using hf
   obtain ⟨at',rfl⟩:=Int.eq_ofNat_of_zero_le hx0.1
   obtain ⟨g,w4,r4,k4⟩:=k2.LV (kl:=.i64) (kc:=.i64) (c:=n) bT (by omega) (by omega)
   obtain ⟨va,vc,w5,r5,k5,hin,_⟩:=k4.append (i:=2) (ty:=26) bT rfl (k4.rd1 hr) (aG l) (by omega) (by simp only [maxLen];omega)
   have hv:=hin (by omega)
   rw [Nat.zero_add,hv.1,hv.2] at r5 k5
   refine ⟨_,_,_,_,r4,_,_,_,_,r5,_,k5.ldA (i:=0) rfl (e32 _) (s32 _) (by simp [hk]),_,k5.ldA (i:=1) rfl (e12 _) (s12 _) (by simp [hn]),_,F8 key nonce hk hn _,?_⟩
   obtain ⟨g6,w6,r6,k6⟩:=k5.b7 (P:=Tryz.prog) 428 (bv key++bv nonce)
   refine ⟨_,_,r6,?_⟩
   have rng:=k6.kP (i:=3) rfl
   have hne:g6≠g:=fun e=>k6.apart 3 2 _ _ (by decide) rfl rfl g6 (by simp [Res.fp]) (by simp [Res.fp,Value.ownBlock,e])
   have rk:w6.rangeAt g6 0 (bv key):=fun j v hj=>rng j v (by rw [List.getElem?_append_left (List.getElem?_eq_some_iff.1 hj).1];exact hj)
   have rn:w6.rangeAt g6 (0+32) (bv nonce):=fun j v hj=>by
     have:=rng (32+j) v (by rw [List.getElem?_append_right (by simp [hk]),cL,hk,Nat.add_sub_cancel_left];exact hj)
     rw [show 0+32+j=0+(32+j) by omega];exact this
   refine (zU g6 0 g n n at' key nonce l w6 hk hn rk rn hne (k6.holds 2 _ rfl) (by omega)).mono ?_
   rintro e w7 ⟨rfl,hc7,hrow⟩
   have he:bk (Ch (at':Int) n)=.nilIface:=by simp [Ch,hf,bk]
   rw [he]
   refine ⟨rfl,_,_,_,rfl,?_⟩
   rw [zw,hl,hf,if_pos rfl,Int.toNat_natCast]
   have:=k6.upd (i:=2) (r':=.row 5 1 (.slice (some ⟨g,0,none⟩) n n) n (bv (sJ key nonce at' l))) rfl (by simpa [Res.fp,Value.ownBlock] using hc7) hrow (by simp [Res.fp,Value.ownBlock])
   exact this.iW (i:=2) rfl

theorem Hy (key nonce:List UInt8) (x:Int) (a:Option Addr) (n c:Nat) (l:List UInt8) (w:World) (hk:key.length=32) (hn:nonce.length=12) (h1: -9223372036854775808≤x) (h2:x≤9223372036854775807) (hr:RdB w a n c l) (hb:n≤9223372036854775807):
   Calls Tryz.prog 201 #[.agg (bv key).toArray,.agg (bv nonce).toArray,.int .i64 x,.slice a n c] w fun e w'=>∃a' n' c',e=.returned (.tuple #[.slice a' n' c',.int .i64 ((Ch x n).getD 0)])∧aS w w' a' n' c' (zw key nonce x l):=by
 have hl:=hr.bh
 apply qx
 have ze:∀k:Nat,0+Int.toNat (k:Int)*1=k:=fun k=>by omega
 have sB:∀w,(sizeOf 5).run Tryz.prog w=.ok 1 w:=fun w=>Tryz.sizeOf5 w
 have s64:∀w,(sizeOf 368).run Tryz.prog w=.ok 64 w:=fun w=>Tryz.sizeOf368 w
 have s32:∀w,(sizeOf 39).run Tryz.prog w=.ok 32 w:=fun w=>Tryz.sizeOf39 w
 have s12:∀w,(sizeOf 287).run Tryz.prog w=.ok 12 w:=fun w=>Tryz.sizeOf287 w
 obtain ⟨g1,w1,r1,k1⟩:=(St.start w).b7 (P:=Tryz.prog) 39 (bv key)
 obtain ⟨g2,w2,r2,k2⟩:=k1.b7 (P:=Tryz.prog) 287 (bv nonce)
 have hbool:(((decide (x<(0:Int)))||(decide (x>(274877906944:Int))))||(decide (((n:Nat):Int)>(IntKind.wrap .i64 ((274877906944:Int)-x)))))= !(jC x n):=by
   by_cases h0:0≤x
   · rw [wrap_i64 (by omega) (by omega)]
     simp only [jC]
     rw [Bool.eq_iff_iff]
     simp only [Bool.and_eq_true,Bool.or_eq_true,Bool.not_eq_true',Bool.and_eq_false_iff,decide_eq_true_eq,decide_eq_false_iff_not]
     omega
   · have:x<0:=by omega
     simp [jC,h0,this]
 rw [hbool]
 refine ⟨_,_,r1,_,_,r2,fun h=>?_,fun h=>?_⟩
 · have hf:jC x n=false:=by simpa using h
   refine ⟨none,0,0,by simp [Ch,hf],?_⟩
   rw [zw,hl,hf]
   exact ⟨k2.chg,rfl,World.ownsRow_nil _ _ _ _⟩
 · have hf:jC x n=true:=by simpa using h
   have hx0:0≤x∧x+n≤274877906944:=by simpa [jC] using hf
   obtain ⟨at',rfl⟩:=Int.eq_ofNat_of_zero_le hx0.1
   obtain ⟨g3,w3,r3,k3⟩:=k2.lit bT [] (by simp) (by simp)
   have hb:=dx (P:=Tryz.prog) (w:=w3) (zero64 w3) Tryz.underlying368 (sB _) [] (by simp) (by simp)
   obtain ⟨g4,w4,r4,k4⟩:=k3.az zero64
   obtain ⟨w5,r5,k5⟩:=k4.stA (i:=3) (v:=bv (List.replicate 64 0)) rfl (s64 _) (by simp) (by simp) (aG _)
   have he:(Ch (at':Int) n).getD 0=0:=by simp [Ch,hf]
   have hR:zw key nonce (at':Int) l=sJ key nonce at' l:=by rw [zw,hl,hf,if_pos rfl,Int.toNat_natCast]
   rw [he,hR]
   obtain ⟨X,hX⟩:∃X,sJ key nonce at' l=X:=⟨_,rfl⟩
   have hXl:X.length=l.length:=by rw [←hX];simp
   rw [hX]
   obtain ⟨M,hM⟩:∃M:Option Addr→Nat→Nat→List UInt8→List UInt8→List Res,M=fun va vn vc y B=>[.arr g1 39 (bv key),.arr g2 287 (bv nonce),.row 5 1 (.slice va vn vc) vn (bv y),.arr g4 368 (bv B)]:=⟨_,rfl⟩
   have i0:∀va vn vc y B,(M va vn vc y B)[0]?=some (.arr g1 39 (bv key)):=fun va vn vc y B=>by rw [hM];rfl
   have i1:∀va vn vc y B,(M va vn vc y B)[1]?=some (.arr g2 287 (bv nonce)):=fun va vn vc y B=>by rw [hM];rfl
   have i2:∀va vn vc y B,(M va vn vc y B)[2]?=some (.row 5 1 (.slice va vn vc) vn (bv y)):=fun va vn vc y B=>by rw [hM];rfl
   have i3:∀va vn vc y B,(M va vn vc y B)[3]?=some (.arr g4 368 (bv B)):=fun va vn vc y B=>by rw [hM];rfl
   have q2:∀va vn vc y B va' vn' vc' y',(M va vn vc y B).set 2 (.row 5 1 (.slice va' vn' vc') vn' (bv y'))=M va' vn' vc' y' B:=fun va vn vc y B va' vn' vc' y'=>by rw [hM];rfl
   have q3:∀va vn vc y B B',(M va vn vc y B).set 3 (.arr g4 368 (bv B'))=M va vn vc y B':=fun va vn vc y B B'=>by rw [hM];rfl
   refine ⟨_,_,_,_,r3,_,hb,_,_,r4,_,r5,fun va vn vc y w'=>∃(i:Nat) (B:List UInt8),y=(i:Int)∧vn=i∧i≤n∧B.length=64∧(i=0∨B=dD key ((at'+i-1) / 64) nonce)∧St w [] w' (M va vn vc (X.take i) B),fun _ _ _ y _=>n-y.toNat,
     ⟨0,List.replicate 64 0,rfl,rfl,by omega,by simp,.inl rfl,by rw [hM];exact k5⟩,?_⟩
   rintro va vn vc y w6 ⟨i,B,rfl,rfl,hi,hBl,hB,hS⟩
   refine ⟨fun h=>?_,fun h=>?_⟩
   · have hi':vn<n:=by simp at h;omega
     have ea:IntKind.wrap .i64 ((at':Int)+(vn:Int))=((at'+vn:Nat):Int):=by rw [wrap_i64 (by omega) (by omega)];omega
     have ed:IntKind.wrap .i64 (Int.tdiv ((at'+vn:Nat):Int) 64)=(((at'+vn) / 64:Nat):Int):=by rw [Int.tdiv_eq_ediv_of_nonneg (by omega),wrap_i64 (by omega) (by omega)];omega
     have em:Int.tmod ((at'+vn:Nat):Int) 64=(((at'+vn)%64:Nat):Int):=by rw [Int.tmod_eq_emod_of_nonneg (by omega)];omega
     have ew:IntKind.wrap .u32 (((at'+vn) / 64:Nat):Int)=(((at'+vn) / 64:Nat):Int):=bU (by omega)
     have e1:IntKind.wrap .i64 ((vn:Int)+1)=((vn+1:Nat):Int):=by rw [wrap_i64 (by omega) (by omega)];rfl
     rw [ea,ed,em,ew,e1]
     refine ⟨fun w'=>St w [] w' (M va vn vc (X.take vn) (dD key ((at'+vn) / 64) nonce)),⟨fun hd=>?_,fun hd=>?_⟩,?_⟩
     · refine ⟨_,hS.ldA (i0 _ _ _ _ _) (e32 _) (s32 _) (by simp [hk]),_,hS.ldA (i1 _ _ _ _ _) (e12 _) (s12 _) (by simp [hn]),(D3 key nonce ((at'+vn) / 64) _ hk hn (by omega)).mono ?_⟩
       rintro e w7 ⟨rfl,hc7⟩
       obtain ⟨w8,r8,h8⟩:=(hS.same hc7).stA (v:=bv (dD key ((at'+vn) / 64) nonce)) (i3 _ _ _ _ _) (s64 _) (by simp [hBl]) (by simp) (aG _)
       rw [q3] at h8
       exact ⟨_,rfl,w8,r8,h8⟩
     · simp only [Bool.or_eq_false_iff,beq_eq_false_iff_ne] at hd
       rcases hB with h0 | h0
       · omega
       · rw [show (at'+vn) / 64=(at'+vn-1) / 64 by omega,←h0];exact hS
     · intro w7 h7
       have hlt:(at'+vn)%64<64:=Nat.mod_lt _ (by decide)
       have hxg:X[vn]?=some (l.getD vn 0^^^Nj key nonce (at'+vn)):=by rw [←hX];exact D8 (by omega)
       refine ix0 hr.cells hl vn hi' fun b o ha hld=>?_
       obtain ⟨g8,w8,va',vc',w9,r8,r9,h9,h8⟩:=h7.drew.sV (i2 _ _ _ _ _) (by omega) (l.getD vn 0^^^(dD key ((at'+vn) / 64) nonce).getD ((at'+vn)%64) 0).toNat (UInt8.toNat_lt _)
       rw [q2,UInt8.ofNat_toNat,show X.take vn++ [l.getD vn 0^^^(dD key ((at'+vn) / 64) nonce).getD ((at'+vn)%64) 0]=X.take (vn+1) by rw [List.take_add_one,hxg];rfl] at h9
       have toS:∀w' va vm vc y,St w [] w' (M va vm vc y (dD key ((at'+vn) / 64) nonce))→∃va vm vc y,St w [] w' (M va vm vc y (dD key ((at'+vn) / 64) nonce)):=fun w' va vm vc y h=>⟨_,_,_,_,h⟩
       refine ⟨fun w'=>∃va vm vc y,St w [] w' (M va vm vc y (dD key ((at'+vn) / 64) nonce)),toS _ _ _ _ _ h7.drew,b,o,ha,by omega,by omega,by omega,by omega,_,fun w' ⟨_,_,_,_,h⟩=>hld w' (h.rd1 hr).cells,_,fun w' ⟨_,_,_,_,h⟩=>h.ldB (i3 _ _ _ _ _) (bA _) (ze ((at'+vn)%64)) (by simpa using hlt),?_⟩
       rw [JW]
       exact ⟨_,_,_,_,r8,_,fun _ h=>h,toS _ _ _ _ _ h8,_,_,_,_,r9,_,fun _ h=>h,toS _ _ _ _ _ h9,⟨vn+1,_,rfl,rfl,by omega,by simp,.inr (by rw [show at'+(vn+1)-1=at'+vn by omega]),h9⟩,by simp;omega⟩
   · have hi':vn=n:=by simp at h;omega
     subst hi'
     rw [List.take_of_length_le (by omega)] at hS
     exact ⟨_,_,_,rfl,hS.iW (i2 _ _ _ _ _)⟩

end Go.Proofs.YtpmhjnhgpplmnaaGreatDoor
end

section
namespace Go.Proofs.YtpmhjnhgpplmnaaGreatDoor
open Go Sx
set_option maxRecDepth 8000

def jq (salt secret info:List UInt8):List UInt8:=iB salt secret info 32
@[simp] theorem j0 (salt secret info:List UInt8):(jq salt secret info).length=32:=Ci _ _ _ _
def oh:List UInt8:=[97,109,112,104,111,114,97]
def bw (m:List UInt8):List UInt8:=jq oh m [99,105,112,104,101,114]++jq oh m [109,97,99]++jq oh m [110,97,109,101]
@[simp] theorem we (m:List UInt8):(bw m).length=96:=by simp [bw]

def C9 (K:List UInt8):List UInt8:=K.take 32
def G4 (K:List UInt8):List UInt8:=(K.drop 32).take 32
def lp (K:List UInt8):List UInt8:=(K.drop 64).take 32

def nK (K:List UInt8) (kind:UInt8) (ctx nonce body:List UInt8):List UInt8:=dw (G4 K) (bN [[kind],ctx,nonce,body])
@[simp] theorem N3 (K:List UInt8) (kind:UInt8) (ctx nonce body:List UInt8):(nK K kind ctx nonce body).length=32:=pe _ _
def iz (K:List UInt8) (kind:UInt8) (ctx plain:List UInt8):List UInt8:=(dw (lp K) (bN [[kind],ctx,plain])).take 12
@[simp] theorem FJ (K:List UInt8) (kind:UInt8) (ctx plain:List UInt8):(iz K kind ctx plain).length=12:=by rw [iz,List.length_take,pe];rfl
def gH (K nonce b:List UInt8):List UInt8:=zw (C9 K) nonce 0 b
def dA (K:List UInt8) (kind:UInt8) (ctx plain:List UInt8):List UInt8:=
 [kind]++iz K kind ctx plain++gH K (iz K kind ctx plain) plain++nK K kind ctx (iz K kind ctx plain) (gH K (iz K kind ctx plain) plain)
def cr (b:List UInt8):List UInt8:=(b.drop 1).take 12
def bBody (b:List UInt8):List UInt8:=(b.drop 13).take (b.length-45)
def qo (b:List UInt8):List UInt8:=b.drop (b.length-32)
def dJ (K:List UInt8) (kind:UInt8) (ctx b:List UInt8):Option (List UInt8):=
 if b.length<45∨b.getD 0 0≠kind then none else if nK K kind ctx (cr b) (bBody b)=qo b then some (gH K (cr b) (bBody b)) else none
def idF (K plain:List UInt8):List UInt8:=dw (lp K) (bN [[99,104,117,110,107],plain])
def fC (pw salt:List UInt8):List UInt8:=bw (jq salt pw [107,101,121])

theorem ug (s:ByteArray) (l:List UInt8) (hs:s=⟨l.toArray⟩) (w:World):∃g c w',(convert 9 26 (.string s)).run Tryz.prog w=.ok (.slice (some ⟨g,0,none⟩) l.length c) w'∧Chg [] w w'∧RdB w' (some ⟨g,0,none⟩) l.length c l∧w.heap.size≤g:=by
 subst hs
 have hsz:(ByteArray.mk l.toArray).size=l.length:=by simp [ByteArray.size]
 have hr:=Lib.run_convert_string_bytes (P:=Tryz.prog) w 9 26 5 ⟨l.toArray⟩ sS bS bE
 rw [hsz] at hr
 refine ⟨_,_,_,hr,⟨?_,?_,?_,by rw [Lib.bytesWorld_size];omega,fun k hk _=>Lib.bytesWorld_at_old w _ _ k hk⟩,⟨.inr ⟨_,0,rfl,fun j v hj=>?_⟩,by simp,grownCap_ge _ _ _ _,by simp⟩,Nat.le_refl _⟩
 · (simp only [Lib.bytesWorld,World.freeze];split<;>rfl)
 · (simp only [Lib.bytesWorld,World.freeze];split<;>rfl)
 · (simp only [Lib.bytesWorld,World.freeze];split<;>rfl)
 · have hjl:j<l.length:=by have:=(List.getElem?_eq_some_iff.1 hj).1;simpa using this
   rw [Nat.zero_add,Lib.bytesWorld_cell w _ _ j (by rw [hsz];exact hjl)]
   rw [tM hjl] at hj
   simpa using hj

theorem Hx (g n c:Nat) (l:List UInt8) (w:World) (hr:RdB w (some ⟨g,0,none⟩) n c l) (hg:g<w.heap.size):∃w',(convert 26 26 (.slice (some ⟨g,0,none⟩) n c)).run Tryz.prog w=.ok (.slice (some ⟨g,0,none⟩) n c) w'∧Chg [g] w w'∧RdB w' (some ⟨g,0,none⟩) n c l:=by
 have hfz:∀(o m:Nat),Chg [g] w (w.freeze ⟨g,o,none⟩ m)∧∀j,(w.freeze ⟨g,o,none⟩ m).cell? ⟨g,j,none⟩=w.cell? ⟨g,j,none⟩:=by
   intro o m
   unfold World.freeze
   split
   · exact ⟨Chg.refl _ _,fun _=>rfl⟩
   · refine ⟨⟨rfl,rfl,rfl,by simp,fun k hk hx=>?_⟩,fun j=>?_⟩
     · have:g≠k:=fun e=>hx (by simp [e])
       simp [Array.getElem?_modify,this]
     · simp only [World.cell?,Array.getElem?_modify,if_true]
       cases hc:w.heap[g]? with
       | none=>rfl
       | some o=>cases o<;>rfl
 have hrd:∀w',(∀j,w'.cell? ⟨g,j,none⟩=w.cell? ⟨g,j,none⟩)→RdB w' (some ⟨g,0,none⟩) n c l:=fun w' h=>by
   refine ⟨?_,hr.len,hr.le,hr.nil⟩
   rcases hr.cells with h0 | ⟨b,o,e,h1⟩
   · exact .inl h0
   · simp only [Option.some.injEq,Addr.mk.injEq,and_true] at e
     obtain ⟨rfl,rfl⟩:=e
     exact .inr ⟨_,_,rfl,fun j v hj=>by rw [h];exact h1 j v hj⟩
 cases hsh:w.shape? g with
 | none=>exact ⟨w,by simp [convert,run_underlying bS,run_underlying bE,markStringish,hsh],Chg.refl _ _,hr⟩
 | some p=>exact ⟨w.freeze ⟨g,p.2,none⟩ 1,by simp [convert,run_underlying bS,run_underlying bE,markStringish,hsh],(hfz _ _).1,hrd _ (hfz _ _).2⟩

theorem Sx.St.Kw {w0 w:World} {X:List Nat} {M:List Res} (h:St w0 X w M) {i g T o n:Nat} {l:List UInt8} (hi:M[i]?=some (.arr g T (bv l))) (ho:o+n≤l.length):RdB w (some ⟨g,o,none⟩) n n ((l.drop o).take n):=by
 refine ⟨.inr ⟨g,o,rfl,fun j u hj=>?_⟩,by simp;omega,Nat.le_refl _,by simp⟩
 have hjn:j<n:=by have:=(List.getElem?_eq_some_iff.1 hj).1;simp at this;omega
 have h1:(bv l)[o+j]?=some u:=by
   rw [←hj,fV,dc,List.getElem?_take,if_pos hjn,List.getElem?_drop]
 have:=h.kP hi (o+j) u h1
 rwa [Nat.zero_add] at this

end Go.Proofs.YtpmhjnhgpplmnaaGreatDoor
end

section
namespace Go.Proofs.YtpmhjnhgpplmnaaGreatDoor.Sx
open Go
set_option maxRecDepth 8000

theorem fT {α β:Type} {enc:α→List β} {k:Nat} :∀ {l:List α},(∀x∈l,(enc x).length=k)→(l.flatMap enc).length=k*l.length
 | [],_=>by simp
 | x::l,h=>by
   rw [List.flatMap_cons,List.length_append,fT fun y hy=>h y (by simp [hy]),h x (by simp),List.length_cons,Nat.mul_succ]
   omega

theorem tr {α β:Type} {enc:α→List β} {k:Nat} :∀ {l:List α} (i:Nat),(∀x∈l,(enc x).length=k)→(l.flatMap enc).drop (i*k)=(l.drop i).flatMap enc
 | l,0,_=>by simp
 | [],i+1,_=>by simp
 | x::l,i+1,h=>by
   have hx:=h x (by simp)
   rw [List.flatMap_cons,List.drop_succ_cons,←tr i fun y hy=>h y (by simp [hy])]
   rw [show (i+1)*k=(enc x).length+i*k by rw [hx,Nat.succ_mul];omega,List.drop_append]
   rw [List.drop_of_length_le (by omega),List.nil_append]
   congr 1
   omega

theorem wY {α β:Type} {enc:α→List β} {k:Nat} {l:List α} (h:∀x∈l,(enc x).length=k) {i j:Nat} {x:α} (hx:l[i]?=some x) (hj:j<k):(l.flatMap enc)[i*k+j]?=(enc x)[j]?:=by
 rw [←List.getElem?_drop,tr i h]
 have hi:=(List.getElem?_eq_some_iff.1 hx).1
 rw [List.drop_eq_getElem_cons hi]
 have e:l[i]=x:=(List.getElem?_eq_some_iff.1 hx).2
 rw [e,List.flatMap_cons,List.getElem?_append_left (by rw [h x (List.mem_of_getElem? hx)];exact hj)]

structure RdE {α:Type} (enc:α→List Value) (k:Nat) (w:World) (a:Option Addr) (n c:Nat) (l:List α):Prop where
 rd:Rd w a n c k (l.flatMap enc)
 len:∀x∈l,(enc x).length=k

section
variable {P:Program} {α:Type} {enc:α→List Value} {k:Nat} {w w':World} {a:Option Addr} {n c:Nat} {l:List α}

theorem RdE.num (h:RdE enc k w a n c l) (hk:0<k):l.length=n:=by
 have h1:=h.rd.len
 rw [fT h.len,Nat.mul_comm] at h1
 exact Nat.eq_of_mul_eq_mul_right hk h1
theorem RdE.an (h:RdE enc k w a n c l) (hc:Chg [] w w'):RdE enc k w' a n c l:=⟨h.rd.an hc,h.len⟩
theorem RdE.nil (w:World):RdE enc k w none 0 0 []:=⟨⟨Cells.nil _ _,by simp,Nat.le_refl _,fun _=>rfl⟩,by simp⟩

theorem RdE.at_ (h:RdE enc k w a n c l) (hk:0<k) {i:Nat} {x:α} (hx:l[i]?=some x):∃b o,a=some ⟨b,o,none⟩∧∀w',RdE enc k w' a n c l→w'.rangeAt b (o+i*k) (enc x):=by
 have key:∀w',RdE enc k w' a n c l→∃b o,a=some ⟨b,o,none⟩∧w'.rangeAt b (o+i*k) (enc x):=by
   intro w' h'
   rcases h'.rd.cells with h0 | ⟨b,o,rfl,hr⟩
   · have h1:=fT h'.len
     rw [h0] at h1
     have:=(List.getElem?_eq_some_iff.1 hx).1
     simp only [List.length_nil] at h1
     rcases Nat.mul_eq_zero.1 h1.symm with h2 | h2<;>omega
   · refine ⟨b,o,rfl,fun j v hv=>?_⟩
     have hj:j<k:=by have:=(List.getElem?_eq_some_iff.1 hv).1;have:=h'.len x (List.mem_of_getElem? hx);omega
     have:=hr (i*k+j) v (by rw [wY h'.len hx hj];exact hv)
     rw [Nat.add_assoc]
     exact this
 obtain ⟨b,o,rfl,_⟩:=key w h
 refine ⟨b,o,rfl,fun w' h'=>?_⟩
 obtain ⟨b',o',e,hr⟩:=key w' h'
 simp only [Option.some.injEq,Addr.mk.injEq,and_true] at e
 obtain ⟨rfl,rfl⟩:=e
 exact hr

theorem RdE.ld (h:RdE enc k w a n c l) (hk:0<k) {T:TypeId} (hA:∀w,(isAgg T).run P w=.ok true w) (hS:∀w,(sizeOf T).run P w=.ok k w) {i:Nat} {x:α} (hx:l[i]?=some x):
   ∃b o,a=some ⟨b,o,none⟩∧∀w',RdE enc k w' a n c l→(Instr.loadAt T (.pointer (some ⟨b,o+Int.toNat (i:Int)*k,none⟩))).run P w'=.ok (.agg (enc x).toArray) w':=by
 obtain ⟨b,o,rfl,hr⟩:=h.at_ hk hx
 refine ⟨b,o,rfl,fun w' h'=>?_⟩
 have:=cA (P:=P) (hr w' h')
 rw [h'.len x (List.mem_of_getElem? hx)] at this
 rw [Int.toNat_natCast]
 simp [Instr.loadAt,Instr.sureAddr,loadVar,hA,hS,this]

end

theorem RdE.fld {P:Program} {α:Type} {enc:α→List Value} {k:Nat} {w:World} {a:Option Addr} {n c:Nat} {l:List α} (h:RdE enc k w a n c l) (hk:0<k) {T:TypeId} (hA:∀w,(isAgg T).run P w=.ok false w) {i j:Nat} {x:α} {v:Value} (hx:l[i]?=some x) (hv:(enc x)[j]?=some v):
   ∃b o,a=some ⟨b,o,none⟩∧∀w',RdE enc k w' a n c l→(Instr.loadAt T (.pointer (some ⟨b,o+Int.toNat (i:Int)*k+j,none⟩))).run P w'=.ok v w':=by
 obtain ⟨b,o,rfl,hr⟩:=h.at_ hk hx
 refine ⟨b,o,rfl,fun w' h'=>?_⟩
 rw [Int.toNat_natCast]
 exact ld1 (hA _) (hr w' h' j v hv)

end Go.Proofs.YtpmhjnhgpplmnaaGreatDoor.Sx
end

section
namespace Go.Proofs.YtpmhjnhgpplmnaaGreatDoor.Sx
open Go
set_option maxRecDepth 8000

theorem Gs {P:Program} {T e n d:Nat} {k:IntKind} (hT:P.underlying T=some (.array n e)) (hs:∀w,(sizeOf e).run P w=.ok 1 w) (hA:∀w,(isAgg e).run P w=.ok false w)
   (hd:∀a b w,(Op.equalIn d e (.int k a) (.int k b)).run P w=.ok (a==b) w) (l m:List Int) (hl:l.length=n) (hm:m.length=n) (w:World):
   (Op.equalIn (d+1) T (.agg (l.map (Value.int k)).toArray) (.agg (m.map (Value.int k)).toArray)).run P w=.ok (decide (l=m)) w:=by
 have hp:∀(l:List Int),l.length=n→∀(i:Nat) (w:World),i<n→(part e (l.map (Value.int k)).toArray i).run P w=.ok (.int k (l.getD i 0)) w:=by
   intro l hl i w hi
   simp [part,hA,hs,show i<l.length by omega]
 have key:∀(js:List Nat) (w:World),(∀j∈js,j<n)→(forIn (m:=Sem) js ((none,()):Option Bool×Unit) fun i (_:Option Bool×Unit)=>do
     let a ←part e (l.map (Value.int k)).toArray i
     let b ←part e (m.map (Value.int k)).toArray i
     let c ←Op.equalIn d e a b
     if c=false then pure (ForInStep.done (some false,())) else pure (ForInStep.yield (none,()))).run P w=.ok (if js.all (fun j=>l.getD j 0==m.getD j 0) then (none,()) else (some false,())) w:=by
   intro js
   induction js with
   | nil=>intro w _;simp
   | cons j js ih=>
     intro w hj
     simp only [List.forIn_cons,Sem.run_bind,hp l hl j w (hj j (by simp)),hp m hm j w (hj j (by simp)),Result.andThen_ok,hd,List.all_cons]
     rcases Bool.eq_false_or_eq_true (l.getD j 0==m.getD j 0) with hb | hb
     · simp only [hb,Bool.true_and]
       simpa using ih w (fun i hi=>hj i (by simp [hi]))
     · simp only [hb,Bool.false_and]
       simp
 have hall:(List.range' 0 n).all (fun j=>l.getD j 0==m.getD j 0)=decide (l=m):=by
   rw [Bool.eq_iff_iff]
   simp only [List.all_eq_true,beq_iff_eq,decide_eq_true_eq,List.mem_range'_1]
   constructor
   · intro h
     apply List.ext_getElem (by omega)
     intro i h1 h2
     have:=h i ⟨by omega,by omega⟩
     simpa [List.getD,h1,h2] using this
   · intro h;subst h;intro _ _;rfl
 simp only [Op.equalIn,Sem.run_bind,run_underlying hT,Result.andThen_ok,hs]
 have k0:=key (List.range' 0 n) w (by simp [List.mem_range'_1])
 rw [hall] at k0
 by_cases h:l=m
 · simp only [h,decide_true,if_true] at k0
   simp [h,k0]
 · simp only [h,decide_false,Bool.false_eq_true,if_false] at k0
   simp [h,k0]

theorem HP {P:Program} {T e n:Nat} {k:IntKind} (hT:P.underlying T=some (.array n e)) (he:P.underlying e=some (.int k)) (hs:∀w,(sizeOf e).run P w=.ok 1 w) (hA:∀w,(isAgg e).run P w=.ok false w) (hg:P.eqGuardType P.depth T=false)
   (x y:Operand) (l m:List Int) (hl:l.length=n) (hm:m.length=n) (w:World):(dK .eql T x y (.agg (l.map (Value.int k)).toArray) (.agg (m.map (Value.int k)).toArray)).run P w=.ok (.bool (decide (l=m))) w∧
   (dK .neq T x y (.agg (l.map (Value.int k)).toArray) (.agg (m.map (Value.int k)).toArray)).run P w=.ok (.bool (!decide (l=m))) w:=by
 have h1:=Gs (d:=9999) hT hs hA (fun a b w=>by rw [run_equalIn_int w 9998 e k k a b he]) l m hl hm w
 refine ⟨?_,?_⟩
 · simp only [dK,Sem.run_bind,run_eqGuard_agg w .eql T x y _ _ hg,Result.andThen_ok,run_eql_struct w,h1]
 · simp only [dK,Sem.run_bind,run_eqGuard_agg w .neq T x y _ _ hg,Result.andThen_ok]
   simp [binOp,Op.equal,show Op.maxDepth=9999+1 from rfl,h1]

theorem GB {l m:List UInt8} :(l.map fun b=>(b.toNat:Int))=(m.map fun b=>(b.toNat:Int))↔l=m:=by
 constructor
 · intro h
   apply List.ext_getElem?
   intro i
   have:=congrArg (fun q=>q[i]?) h
   simp only [List.getElem?_map] at this
   cases h1:l[i]?<;>cases h2:m[i]?<;>simp [h1,h2] at this ⊢
   exact UInt8.toNat_inj.1 (by omega)
 · intro h;rw [h]

end Go.Proofs.YtpmhjnhgpplmnaaGreatDoor.Sx
end

section
namespace Go.Proofs.YtpmhjnhgpplmnaaGreatDoor.Sx
open Go
set_option maxRecDepth 8000

theorem zD {P:Program} {d:Nat} {xs ys:Array Value} {f:Field} {fs:List Field} {a b:Value} {r:Bool} {w:World} (hn:f.name≠ "_") (ha:(part f.type xs f.offset).run P w=.ok a w) (hb:(part f.type ys f.offset).run P w=.ok b w)
   (he:(Op.equalIn d f.type a b).run P w=.ok r w) {q:Bool} (hq:(Op.eqFields d xs ys fs).run P w=.ok q w):(Op.eqFields d xs ys (f::fs)).run P w=.ok (r&&q) w:=by
 rw [Op.eqFields,if_pos hn]
 simp only [Sem.run_bind,ha,hb,he,Result.andThen_ok]
 cases r with
 | true=>simp [hq]
 | false=>simp

theorem FQ {P:Program} {T:TypeId} {xs ys:Array Value} {r:Bool} {w:World} (hT:P.underlying T=some (.struct (P.fieldsOf T))) (hp:P.stoodInHeld T=false) (hg:P.eqGuardType P.depth T=false) (x y:Operand)
   (h:(Op.eqFields 9999 xs ys (P.fieldsOf T).toList).run P w=.ok r w):(dK .eql T x y (.agg xs) (.agg ys)).run P w=.ok (.bool r) w∧(dK .neq T x y (.agg xs) (.agg ys)).run P w=.ok (.bool (!r)) w:=by
 have h1:=(run_equalIn_struct (P:=P) w 9999 T xs ys hT hp).trans h
 refine ⟨?_,?_⟩
 · simp only [dK,Sem.run_bind,run_eqGuard_agg w .eql T x y _ _ hg,Result.andThen_ok,run_eql_struct w,h1]
 · simp only [dK,Sem.run_bind,run_eqGuard_agg w .neq T x y _ _ hg,Result.andThen_ok,run_neq_struct w,h1]

end Go.Proofs.YtpmhjnhgpplmnaaGreatDoor.Sx
end

section
namespace Go.Proofs.YtpmhjnhgpplmnaaGreatDoor
open Go Sx
set_option maxRecDepth 8000

structure bq where
 id:List UInt8
 pack:Int
 at_:Int
 len:Int
 idl:id.length=32
 pk: -9223372036854775808≤pack∧pack≤9223372036854775807
 ak: -9223372036854775808≤at_∧at_≤9223372036854775807
 lk: -9223372036854775808≤len∧len≤9223372036854775807
def ep:bq:=⟨List.replicate 32 0,0,0,0,by simp,by omega,by omega,by omega⟩
instance:Inhabited bq:=⟨ep⟩
def aC (r:bq):List Value:=bv r.id++ [.int .i64 r.pack,.int .i64 r.at_,.int .i64 r.len]
@[simp] theorem aI (r:bq):(aC r).length=35:=by simp [aC,r.idl]
theorem dR (r:bq):∀v∈aC r,v.oneCell'=true:=fun v hv=>by
 simp only [aC,List.mem_append,List.mem_cons,List.not_mem_nil,or_false] at hv
 rcases hv with hv | rfl | rfl | rfl
 · exact aG _ v hv
 · rfl
 · rfl
 · rfl
theorem DQ (w:World):(isAgg 87).run Tryz.prog w=.ok true w:=Tryz.isAgg87 w

theorem zz (w:World):(sizeOf 87).run Tryz.prog w=.ok 32 w:=Tryz.sizeOf87 w

abbrev Refs:=List bq

theorem rfA (w:World):(isAgg 100).run Tryz.prog w=.ok true w:=Tryz.isAgg100 w

theorem rfS (w:World):(sizeOf 100).run Tryz.prog w=.ok 35 w:=Tryz.sizeOf100 w

theorem inA (w:World):(isAgg 3).run Tryz.prog w=.ok false w:=Tryz.isAgg3 w

section
variable {w0 w w':World} {X:List Nat}
theorem u6 {M:List Res} {i g:Nat} {T:TypeId} {r:bq} (h:St w0 X w M) (hi:M[i]?=some (.arr g T (aC r))):
   (Instr.loadAt 3 (.pointer (some ⟨g,32,none⟩))).run Tryz.prog w=.ok (.int .i64 r.pack) w∧(Instr.loadAt 3 (.pointer (some ⟨g,33,none⟩))).run Tryz.prog w=.ok (.int .i64 r.at_) w∧(Instr.loadAt 3 (.pointer (some ⟨g,34,none⟩))).run Tryz.prog w=.ok (.int .i64 r.len) w:=by
 refine ⟨h.ldL hi (inA _) rfl ?_,h.ldL hi (inA _) rfl ?_,h.ldL hi (inA _) rfl ?_⟩<;>rw [aC,List.getElem?_append_right (by simp [r.idl])]<;>simp [r.idl]
end

abbrev RdR (w:World) (a:Option Addr) (n c:Nat) (l:Refs):Prop:=RdE aC 35 w a n c l

theorem rfT:gF Tryz.prog 48 100 35 56 (.agg (aC ep).toArray):=⟨by kernel_rfl,⟨Tryz.t100,by kernel_rfl,by kernel_rfl,by kernel_rfl,by kernel_rfl⟩,rfl,by decide⟩

theorem O0 (w:World):(sizeOf 5).run Tryz.prog w=.ok 1 w:=Tryz.sizeOf5 w
theorem On (x y:Operand) (l m:List UInt8) (hl:l.length=32) (hm:m.length=32) (w:World):(dK .eql 87 x y (.agg (bv l).toArray) (.agg (bv m).toArray)).run Tryz.prog w=.ok (.bool (decide (l=m))) w∧(dK .neq 87 x y (.agg (bv l).toArray) (.agg (bv m).toArray)).run Tryz.prog w=.ok (.bool (!decide (l=m))) w:=by
 rw [mY,mY]
 have:=HP (P:=Tryz.prog) (T:=87) Tryz.underlying87 bE O0 (fun w=>Tryz.isAgg5 w) (by kernel_rfl) x y (l.map fun b=>(b.toNat:Int)) (m.map fun b=>(b.toNat:Int)) (by simp [hl]) (by simp [hm]) w
 simpa only [GB] using this

theorem rfZ (w:World):(zeroValue 100).run Tryz.prog w=.ok (.agg (aC ep).toArray) w:=Tryz.zeroValue100 w

theorem I5:Tryz.prog.built 100=fun parts=>Instr.fill (fun i=>(#[(0,32),(32,1),(33,1),(34,1)]:Array (Nat×Nat))[i]?) (aC ep).toArray parts:=by kernel_rfl

theorem Sx.St.NK {w0 w:World} {X:List Nat} {M:List Res} (h:St w0 X w M) {i g:Nat} {T:TypeId} {r:bq} (hi:M[i]?=some (.arr g T (aC r))):RdB w (some ⟨g,0,none⟩) 32 32 r.id:=by
 have rng:=h.kP hi
 refine ⟨.inr ⟨g,0,rfl,fun j v hj=>rng j v ?_⟩,by simp [r.idl],Nat.le_refl _,by simp⟩
 rw [aC,List.getElem?_append_left (List.getElem?_eq_some_iff.1 hj).1];exact hj

end Go.Proofs.YtpmhjnhgpplmnaaGreatDoor
end

section
namespace Go.Proofs.YtpmhjnhgpplmnaaGreatDoor
open Go Sx
set_option maxRecDepth 8000

def OkI (x:Int):Prop:= -9223372036854775808≤x∧x≤9223372036854775807
instance (x:Int):Decidable (OkI x):=by unfold OkI;infer_instance
def mkRef (id:List UInt8) (p q n:Int):bq:=if h:id.length=32∧OkI p∧OkI q∧OkI n then ⟨id,p,q,n,h.1,h.2.1,h.2.2.1,h.2.2.2⟩ else ep
theorem Ln {id:List UInt8} {p q n:Int} (h:id.length=32) (hp:OkI p) (hq:OkI q) (hn:OkI n):aC (mkRef id p q n)=bv id++ [.int .i64 p,.int .i64 q,.int .i64 n]:=by
 rw [mkRef,dif_pos ⟨h,hp,hq,hn⟩];rfl
theorem CB {id:List UInt8} {p q n:Int} (h:id.length=32) (hp:OkI p) (hq:OkI q) (hn:OkI n):(mkRef id p q n).id=id∧(mkRef id p q n).pack=p∧(mkRef id p q n).at_=q∧(mkRef id p q n).len=n:=by
 rw [mkRef,dif_pos ⟨h,hp,hq,hn⟩];exact ⟨rfl,rfl,rfl,rfl⟩

abbrev Itm:=List UInt8×List UInt8
def oT:List UInt8:=[97,109,112,104,112,97,99,107]
def n64 (x:Int):Nat:=(x%18446744073709551616).toNat
def iO (num:Int):List UInt8:=oT++fA (n64 num)
@[simp] theorem jY (num:Int):(iO num).length=16:=by simp [iO,oT,sN]
def dM (x:Itm):List UInt8:=kD 2 (x.1++x.2)
def aT (num:Int):Nat→List Itm→List bq
 | _,[]=>[]
 | s,x::r=>mkRef x.1 num (((s+(dM x).length:Nat):Int)- ((x.2.length:Nat):Int)) ((x.2.length:Nat):Int)::aT num (s+(dM x).length) r
def G2 (r:bq):List UInt8:=r.id++fA (n64 r.at_)++fA (n64 r.len)
@[simp] theorem Ig (r:bq):(G2 r).length=48:=by simp [G2,sN,r.idl]
def eY (rs:List bq):List UInt8:=rs.flatMap G2
theorem gV:∀rs:List bq,(eY rs).length=48*rs.length
 | []=>rfl
 | r::rs=>by
   have:=gV rs
   rw [eY,List.flatMap_cons,List.length_append,Ig,List.length_cons]
   rw [eY] at this
   rw [this];omega
def gu (K:List UInt8) (num:Int) (rs:List bq):List UInt8:=kD 3 (dA K 3 (fA (n64 num)) (eY rs))
def dH (K:List UInt8) (num:Int) (xs:List Itm):List (List UInt8):=iO num::xs.map dM++ [gu K num (aT num 16 xs)]
def aY (K:List UInt8) (num:Int) (xs:List Itm):List UInt8:=(dH K num xs).flatten
def cU (num:Int):Bool:=decide (0≤num)&&decide (num≤1099511627776)
theorem dO {num:Int} :cU num=true↔0≤num∧num≤1099511627776:=by simp [cU]
def nw:Nat→List Itm→Nat
 | s,[]=>s
 | s,x::r=>nw (s+(dM x).length) r
theorem fu (num:Int):∀(xs:List Itm) (s:Nat),(aT num s xs).length=xs.length
 | [],_=>rfl
 | x::r,s=>by simp [aT,fu num r]
theorem sK:∀(xs:List Itm) (s:Nat),nw s xs=s+(xs.map dM).flatten.length
 | [],s=>by simp [nw]
 | x::r,s=>by rw [nw,sK r];simp;omega
theorem yW (num:Int):∀(xs:List Itm) (s:Nat) (x:Itm),aT num s (xs++ [x])=aT num s xs++ [mkRef x.1 num (((nw s xs+(dM x).length:Nat):Int)- ((x.2.length:Nat):Int)) ((x.2.length:Nat):Int)]
 | [],s,x=>rfl
 | y::r,s,x=>by
   show _::aT num _ (r++ [x])=_
   rw [yW num r];rfl
structure ItD where
 id:List UInt8
 a:Option Addr
 n:Nat
 c:Nat
 fD:List UInt8
 idl:id.length=32
def ItD.t (x:ItD):Itm:=(x.id,x.fD)
def itC (x:ItD):List Value:=bv x.id++ [.slice x.a x.n x.c]
@[simp] theorem wH (x:ItD):(itC x).length=33:=by simp [itC,x.idl]
theorem LQ (x:ItD):∀v∈itC x,v.oneCell'=true:=fun v hv=>by
 simp only [itC,List.mem_append,List.mem_singleton] at hv
 rcases hv with hv | rfl
 · exact aG _ v hv
 · rfl
structure ItR (w:World) (a:Option Addr) (n c:Nat) (l:List ItD):Prop where
 rd:RdE itC 33 w a n c l
 JF:∀x∈l,RdB w x.a x.n x.c x.fD
theorem ItR.an {w w':World} {a:Option Addr} {n c:Nat} {l:List ItD} (h:ItR w a n c l) (hc:Chg [] w w'):ItR w' a n c l:=⟨h.rd.an hc,fun x hx=>(h.JF x hx).an hc⟩

structure cH (xs:List Itm):Prop where
 num:xs.length≤4096
 idl:∀x∈xs,x.1.length=32
 sum:(xs.map fun x=>x.2.length).sum≤16777216
theorem wJ:∀ {l:List Nat} {x:Nat},x∈l→x≤l.sum
 | y::l,x,h=>by
   rw [List.sum_cons]
   rcases List.mem_cons.1 h with rfl | h
   · omega
   · have:=wJ h;omega
theorem cH.fD {xs:List Itm} (h:cH xs) {x:Itm} (hx:x∈xs):x.2.length≤16777216:=
 Nat.le_trans (wJ (List.mem_map_of_mem (f:=fun x:Itm=>x.2.length) hx)) h.sum

end Go.Proofs.YtpmhjnhgpplmnaaGreatDoor
end

section
namespace Go.Proofs.YtpmhjnhgpplmnaaGreatDoor
open Go Go.Proofs.YtpmhjnhgpplmnaaGreatDoor.Sx
set_option maxRecDepth 100000
variable (w:World) (R:Ending→World→Prop)
abbrev u0 (a:Nat) (b:Array Value) (c:World) (d:Nat) (e:Option Addr) (f g:Nat) (h:Int) (i:Option Addr) (j k:Nat) (l:Ending→World→Prop):Prop:=Stz 39 a 0 (.agg b) c fun b=>0≤(12:Int)∧(12:Int)≤32∧Laz 41 d 0 b fun c=>Clz 199 #[.agg c,.slice (some ⟨a,0,none⟩) 12 32,.slice e f g] b fun b c e g=>Laz 41 d 0 g fun d=>Caz 200 #[.agg d,.int .u8 h,.slice i j k,.slice (some ⟨a,0,none⟩) 12 32,.slice b c e] g fun d g=>Alz 39 g fun g i=>Stz 39 g 0 (.agg d) i fun d=>Mkz 26 (.int .i64 0) (.int .i64 (IntKind.wrap .i64 (45+(f:Int)))) d fun d f i j=>Bsz 26 1 #[(0,.int .u8 h)] j fun h j k m=>Apz 26 (.slice d f i) (.slice h j k) m fun d f h i=>Apz 26 (.slice d f h) (.slice (some ⟨a,0,none⟩) 12 32) i fun a d f h=>Apz 26 (.slice a d f) (.slice b c e) h fun a b c d=>0≤(32:Int)∧(32:Int)≤32∧Apz 26 (.slice a b c) (.slice (some ⟨g,0,none⟩) 32 32) d fun a b c d=>l (.returned (.slice a b c)) d
theorem wh (a:Option Addr) (b c:Nat) (d:Option Addr) (e f:Nat) (g:ByteArray) (h:Alz 39 w fun h i=>Alz 39 i fun i j=>Cvz 9 26 (.string g) j fun g j k l=>C4z 292 #[.slice a b c,.slice d e f,.slice g j k,.int .i64 32] l fun a b c d e=>0≤(32:Int)∧(32:Int)≤32∧∃d f,(Builtin.copy_ #[26,26] 3 #[.slice (some ⟨i,0,none⟩) 32 32,.slice a b c]).run Tryz.prog e=.ok (.int .i64 d) f∧Laz 39 i 0 f fun a=>Stz 39 h 0 (.agg a) f fun a=>∃b,(loadVar 39 ⟨h,0,none⟩).run Tryz.prog a=.ok b a∧R (.returned b) a):Calls Tryz.prog 227 #[.slice a b c,.slice d e f,.string g] w R:=aa 0x683c00519c052972475ec07c07c Tryz.func227 (by kernel_rfl) h
theorem rL (a:Array Value) (h:Bxz 39 (.agg a) w fun a b=>Alz 41 b fun b c=>Bsz 26 7 #[(0,.int .u8 97),(1,.int .u8 109),(2,.int .u8 112),(3,.int .u8 104),(4,.int .u8 111),(5,.int .u8 114),(6,.int .u8 97)] c fun c d e f=>Cvz 26 26 (.slice c d e) f fun c d e f=>∃g:World→Prop,g f.drew∧0≤(32:Int)∧(32:Int)≤32∧0≤(32:Int)∧(32:Int)≤32∧0≤(32:Int)∧(32:Int)≤32∧Caz 227 #[.slice c d e,.slice (some ⟨a,0,none⟩) 32 32,.string (ByteArray.mk #[99,105,112,104,101,114])] f.drew fun f h=>∃i:World→Prop,(∀a,i a→g a)∧i h∧Caz 227 #[.slice c d e,.slice (some ⟨a,0,none⟩) 32 32,.string (ByteArray.mk #[109,97,99])] h fun g h=>∃j:World→Prop,(∀a,j a→i a)∧j h∧Caz 227 #[.slice c d e,.slice (some ⟨a,0,none⟩) 32 32,.string (ByteArray.mk #[110,97,109,101])] h fun a c=>∃d:World→Prop,(∀a,d a→j a)∧d c∧∃e,(∀b,d b→(Instr.build 41 #[(0,.agg f),(1,.agg g),(2,.agg a)]).run Tryz.prog b=.ok (.agg e) b)∧Stz 41 b 0 (.agg e) c fun a=>∃c,(loadVar 41 ⟨b,0,none⟩).run Tryz.prog a=.ok c a∧R (.returned c) a):Calls Tryz.prog 143 #[.agg a] w R:=aa 0x11a1041a48193818184818548182467106164103161100152017575c077c Tryz.func143 (by kernel_rfl) h
theorem D6 (a:Array Value) (b:Int) (c:Option Addr) (d e:Nat) (f:Option Addr) (g i:Nat) (j:Option Addr) (k l:Nat) (h:Bxz 41 (.agg a) w fun a h=>Alz 39 h fun h m=>0≤(32:Int)∧(32:Int)≤32∧Bsz 26 1 #[(0,.int .u8 b)] m.drew fun b m n o=>Bsz 24 4 #[(0,.slice b m n),(1,.slice c d e),(2,.slice f g i),(3,.slice j k l)] o fun b c d e=>Clz 100 #[.slice b c d] e fun b c d e=>Bsz 24 1 #[(0,.slice b c d)] e fun b c d e=>Caz 198 #[.slice (some ⟨a,32,none⟩) 32 32,.slice b c d] e fun a b=>Stz 39 h 0 (.agg a) b fun a=>∃b,(loadVar 39 ⟨h,0,none⟩).run Tryz.prog a=.ok b a∧R (.returned b) a):Calls Tryz.prog 200 #[.agg a,.int .u8 b,.slice c d e,.slice f g i,.slice j k l] w R:=aa 0x1c01041b48181a4721947181847274723465424261100142077c Tryz.func200 (by kernel_rfl) h
theorem B6 (a:Array Value) (b:Option Addr) (c d:Nat) (e:Option Addr) (f g:Nat) (h:Bxz 41 (.agg a) w fun a h=>Alz 287 h fun h i=>0≤(12:Int)∧(12:Int)≤12∧∃j k,(Builtin.copy_ #[26,26] 3 #[.slice (some ⟨h,0,none⟩) 12 12,.slice b c d]).run Tryz.prog i=.ok (.int .i64 j) k∧Laz 39 a 0 k fun a=>Laz 287 h 0 k fun b=>C4z 272 #[.agg a,.agg b,.int .i64 0,.slice e f g] k fun a b c d e=>R (.returned (.slice a b c)) e):Calls Tryz.prog 199 #[.agg a,.slice b c d,.slice e f g] w R:=aa 0x2d0529724183831c00519c07c017c Tryz.func199 (by kernel_rfl) h
theorem Bf (a:Array Value) (b:Int) (c:Option Addr) (d e:Nat) (f:Option Addr) (g i:Nat) (h:Bxz 41 (.agg a) w fun a h=>0≤(32:Int)∧(32:Int)≤32∧Bsz 26 1 #[(0,.int .u8 b)] h.drew (fun h j k l=>Bsz 24 3 #[(0,.slice h j k),(1,.slice c d e),(2,.slice f g i)] l (fun h j k l=>Clz 100 #[.slice h j k] l (fun h j k l=>Bsz 24 1 #[(0,.slice h j k)] l (fun h j k l=>Caz 198 #[.slice (some ⟨a,64,none⟩) 32 32,.slice h j k] l (fun h j=>Alz 39 j fun j k=>u0 j h k a f g i b c d e R)∧Alz 39 l fun l m=>Caz 198 #[.slice (some ⟨a,64,none⟩) 32 32,.slice h j k] m fun h j=>u0 l h j a f g i b c d e R)∧Alz 39 l fun l m=>Bsz 24 1 #[(0,.slice h j k)] m fun h j k m=>Caz 198 #[.slice (some ⟨a,64,none⟩) 32 32,.slice h j k] m fun h j=>u0 l h j a f g i b c d e R)∧Alz 39 l fun l m=>Clz 100 #[.slice h j k] m fun h j k m=>Bsz 24 1 #[(0,.slice h j k)] m fun h j k m=>Caz 198 #[.slice (some ⟨a,64,none⟩) 32 32,.slice h j k] m fun h j=>u0 l h j a f g i b c d e R)∧Alz 39 l fun l m=>Bsz 24 3 #[(0,.slice h j k),(1,.slice c d e),(2,.slice f g i)] m fun h j k m=>Clz 100 #[.slice h j k] m fun h j k m=>Bsz 24 1 #[(0,.slice h j k)] m fun h j k m=>Caz 198 #[.slice (some ⟨a,64,none⟩) 32 32,.slice h j k] m fun h j=>u0 l h j a f g i b c d e R)∧Alz 39 h.drew fun h j=>Bsz 26 1 #[(0,.int .u8 b)] j fun j k l m=>Bsz 24 3 #[(0,.slice j k l),(1,.slice c d e),(2,.slice f g i)] m fun j k l m=>Clz 100 #[.slice j k l] m fun j k l m=>Bsz 24 1 #[(0,.slice j k l)] m fun j k l m=>Caz 198 #[.slice (some ⟨a,64,none⟩) 32 32,.slice j k l] m fun j k=>u0 h j k a f g i b c d e R):Calls Tryz.prog 101 #[.agg a,.int .u8 b,.slice c d e,.slice f g i] w R:=aa 0x17591c0175dc0175dc017575175ec0678144283c01714d83c019c1c01041b481819472184718747264723431a041b48181947218471874726431a041b4818194721847187431a041b48181947218431a041b481819431a041b431a48181967218671876726672365423261100142017c Tryz.func101 (by kernel_rfl) h
theorem BB (a:Array Value) (b:Int) (c:Option Addr) (d e:Nat) (f:Option Addr) (g i:Nat) (h:Bxz 41 (.agg a) w fun a h=>∃j:Bool→World→Prop,Ifz (decide ((g:Int)<45)) (j true h) (∃a c,f=some ⟨a,c,none⟩∧0≤(0:Int)∧0<(g:Int)∧Lkz .u8 5 a (c+Int.toNat (0:Int)*1) h fun a=>j (a != b) h)∧∀h k,j h k→Ifz h (R (.returned (.tuple #[.slice none 0 0,.iface 65 (.int .i64 10)])) k) (0≤(1:Int)∧(1:Int)≤13∧13≤(i:Int)∧∀h,iU 1 f 1 i h→0≤(13:Int)∧(13:Int)≤IntKind.wrap .i64 ((g:Int)-32)∧IntKind.wrap .i64 ((g:Int)-32)≤(i:Int)∧∀j,iU 1 f 13 i j→Laz 41 a 0 k.drew fun l=>Caz 200 #[.agg l,.int .u8 b,.slice c d e,.slice h 12 (i-1),.slice j (Int.toNat (IntKind.wrap .i64 ((g:Int)-32))-13) (i-13)] k.drew fun b c=>Alz 39 c fun c d=>Stz 39 c 0 (.agg b) d fun b=>0≤(32:Int)∧(32:Int)≤32∧0≤IntKind.wrap .i64 ((g:Int)-32)∧IntKind.wrap .i64 ((g:Int)-32)≤(g:Int)∧(g:Int)≤(i:Int)∧∀d,iU 1 f (Int.toNat (IntKind.wrap .i64 ((g:Int)-32))) i d→Cbz 207 #[.slice (some ⟨c,0,none⟩) 32 32,.slice d (g-Int.toNat (IntKind.wrap .i64 ((g:Int)-32))) (i-Int.toNat (IntKind.wrap .i64 ((g:Int)-32)))] b.drew fun b c=>Ifz (!b) (R (.returned (.tuple #[.slice none 0 0,.iface 65 (.int .i64 10)])) c) (Laz 41 a 0 c (fun a=>Clz 199 #[.agg a,.slice h 12 (i-1),.slice j (Int.toNat (IntKind.wrap .i64 ((g:Int)-32))-13) (i-13)] c fun a b c d=>R (.returned (.tuple #[.slice a b c,.nilIface])) d)))):Calls Tryz.prog 111 #[.agg a,.int .u8 b,.slice c d e,.slice f g i] w R:=aa 0xd714d83c003d360100514184463121226014220678144283c701065226413222611001424d003d30e138106229c4214112f11a1e1a220d7c Tryz.func111 (by kernel_rfl) h
theorem EJ (a:Array Value) (b:Option Addr) (c d:Nat) (h:Bxz 41 (.agg a) w fun a e=>Alz 87 e fun e f=>0≤(32:Int)∧(32:Int)≤32∧Bsz 26 5 #[(0,.int .u8 99),(1,.int .u8 104),(2,.int .u8 117),(3,.int .u8 110),(4,.int .u8 107)] f.drew fun f g h i=>Cvz 26 26 (.slice f g h) i fun f g h i=>Bsz 24 2 #[(0,.slice f g h),(1,.slice b c d)] i fun b c d f=>Clz 100 #[.slice b c d] f fun b c d f=>Bsz 24 1 #[(0,.slice b c d)] f fun b c d f=>Caz 198 #[.slice (some ⟨a,64,none⟩) 32 32,.slice b c d] f fun a b=>Stz 87 e 0 (.agg a) b fun a=>∃b,(loadVar 87 ⟨e,0,none⟩).run Tryz.prog a=.ok b a∧R (.returned b) a):Calls Tryz.prog 139 #[.agg a,.slice b c d] w R:=aa 0x1a010419481818472747186472547234722404161100142077c Tryz.func139 (by kernel_rfl) h
theorem zH (a:ByteArray) (b:Option Addr) (c d:Nat) (h:Alz 41 w fun e f=>Cvz 9 26 (.string a) f fun a f g h=>Caz 227 #[.slice b c d,.slice a f g,.string (ByteArray.mk #[107,101,121])] h fun a b=>Caz 143 #[.agg a] b fun a b=>Stz 41 e 0 (.agg a) b fun a=>∃b,(loadVar 41 ⟨e,0,none⟩).run Tryz.prog a=.ok b a∧R (.returned b) a):Calls Tryz.prog 226 #[.string a,.slice b c d] w R:=aa 0x681481475dc07c Tryz.func226 (by kernel_rfl) h
theorem qR (a:ByteArray) (h:R (.returned (.bool (!(a.toList==(ByteArray.mk #[]).toList)&&decide ((a.size:Int)≤1024)))) w):Calls Tryz.prog 225 #[.string a] w R:=aa 0x13bec1d Tryz.func225 (by kernel_rfl) h
theorem B7 (a:ByteArray) (b c:Array Value) (h:Bxz 209 (.agg b) w fun b d=>Bxz 39 (.agg c) d fun c d=>Cbz 225 #[.string a] d fun d e=>Ifz (!d) (R (.returned (.tuple #[.slice none 0 0,.iface 65 (.int .i64 28)])) e) (Bsz 26 8 #[(0,.int .u8 97),(1,.int .u8 109),(2,.int .u8 112),(3,.int .u8 104),(4,.int .u8 111),(5,.int .u8 114),(6,.int .u8 97),(7,.int .u8 49)] e (fun d e f g=>Cvz 26 26 (.slice d e f) g fun d e f g=>0≤(16:Int)∧(16:Int)≤16∧Apz 26 (.slice d e f) (.slice (some ⟨b,0,none⟩) 16 16) g fun d e f g=>0≤(16:Int)∧(16:Int)≤16∧0≤(16:Int)∧(16:Int)≤16∧0≤(32:Int)∧(32:Int)≤32∧Caz 226 #[.string a,.slice (some ⟨b,0,none⟩) 16 16] g.drew fun a g=>Clz 101 #[.agg a,.int .u8 1,.slice (some ⟨b,0,none⟩) 16 16,.slice (some ⟨c,0,none⟩) 32 32] g fun a b c g=>Apz 26 (.slice d e f) (.slice a b c) g fun a b c d=>R (.returned (.tuple #[.slice a b c,.nilIface])) d))):Calls Tryz.prog 141 #[.string a,.agg b,.agg c] w R:=aa 0x1a01019182272747186481834651641621102242017597575c003d3014141c20d77c Tryz.func141 (by kernel_rfl) h
theorem y4 (a:ByteArray) (b:Option Addr) (c d:Nat) (h:Alz 39 w fun e f=>Cbz 225 #[.string a] f fun f g=>Ifz (!f) (Buz 39 #[] g (fun a=>Stz 39 e 0 (.agg a) g fun a=>∃b,(loadVar 39 ⟨e,0,none⟩).run Tryz.prog a=.ok b a∧R (.returned (.tuple #[b,.iface 65 (.int .i64 28)])) a)) (∃f:Bool→World→Prop,Ifz ((c:Int) != 101) (f true g) (0≤(8:Int)∧8≤(d:Int)∧∃a,(convert 26 9 (.slice b 8 d)).run Tryz.prog g=.ok (.string a) g∧f (!(a.toList==(ByteArray.mk #[97,109,112,104,111,114,97,49]).toList)) g)∧∀g h,f g h→Ifz g (Buz 39 #[] h (fun a=>Stz 39 e 0 (.agg a) h fun a=>∃b,(loadVar 39 ⟨e,0,none⟩).run Tryz.prog a=.ok b a∧R (.returned (.tuple #[b,.iface 65 (.int .i64 10)])) a)) (0≤(8:Int)∧(8:Int)≤24∧24≤(d:Int)∧∀f,iU 1 b 8 d f→0≤(24:Int)∧24≤(c:Int)∧(c:Int)≤(d:Int)∧∀g,iU 1 b 24 d g→Caz 226 #[.string a,.slice f 16 (d-8)] h.drew fun a b=>C4z 111 #[.agg a,.int .u8 1,.slice f 16 (d-8),.slice g (c-24) (d-24)] b fun a b c d f=>Nez .neq 58 (.tmp 39) d f fun g=>Ifz g (Buz 39 #[] f (fun a=>Stz 39 e 0 (.agg a) f fun a=>∃b,(loadVar 39 ⟨e,0,none⟩).run Tryz.prog a=.ok b a∧R (.returned (.tuple #[b,d])) a)) (∃d,(Instr.arrayAt 39 (.slice a b c)).run Tryz.prog f=.ok d f∧∃a,(Instr.loadAt 39 d).run Tryz.prog f=.ok (.agg a) f∧Stz 39 e 0 (.agg a) f fun a=>∃b,(loadVar 39 ⟨e,0,none⟩).run Tryz.prog a=.ok b a∧R (.returned (.tuple #[b,.nilIface])) a)))):Calls Tryz.prog 176 #[.string a,.slice b c d] w R:=aa 0x1683931c00016183c30431c20529724d814dc601054226310216110014200016183c30d53910522ac4214112f1191f1a2200016183c3014141c2017c Tryz.func176 (by kernel_rfl) h
end Go.Proofs.YtpmhjnhgpplmnaaGreatDoor
end

section
namespace Go.Proofs.YtpmhjnhgpplmnaaGreatDoor
open Go Sx
set_option maxRecDepth 8000

theorem Sx.St.xE {w0 w:World} {X:List Nat} {M:List Res} (h:St w0 X w M) {T:TypeId} {z:List Value} (hz:∀w,(zeroValue T).run Tryz.prog w=.ok (.agg z.toArray) w):
   ∃g w',(Instr.alloc T true (.tuple #[])).run Tryz.prog w=.ok (.pointer (some ⟨g,0,none⟩)) w'∧St w0 X w' (M++ [.arr g T z])∧Chg [] w w':=by
 obtain ⟨g,w1,r,h1⟩:=h.az hz
 obtain ⟨g',w1',r',h1'⟩:=(St.start w).az hz
 have e:=r.symm.trans r'
 simp only [Result.ok.injEq] at e
 obtain ⟨_,rfl⟩:=e
 exact ⟨g,w1,r,h1,h1'.chg⟩

theorem vl {t e by_:Nat} {z:Value} (E:gF Tryz.prog t e 1 by_ z) (vs:List Value) (h1:∀v∈vs,v.oneCell'=true) (hb:vs.length≤16777216) (w:World):
   ∃g w',(Instr.buildSlice t vs.length ((vs.zipIdx 0).map fun p=>(p.2,p.1)).toArray).run Tryz.prog w=.ok (.slice (some ⟨g,0,none⟩) vs.length vs.length) w'∧Chg [] w w'∧Rd w' (some ⟨g,0,none⟩) vs.length vs.length 1 vs∧w.heap.size≤g∧g<w'.heap.size:=by
 obtain ⟨g,w',r,h⟩:=(St.start w).lit E vs h1 hb
 refine ⟨g,w',r,h.chg,h.rd (i:=0) rfl,?_,Res.lt (h.holds 0 _ rfl) g (by simp [Res.fp,Value.ownBlock])⟩
 have h2:=h.own 0 _ rfl g (by simp [Res.fp,Value.ownBlock])
 simpa using h2

theorem JA (k:UInt8) (w:World):∃g w',(Instr.buildSlice 26 1 #[(0,.int .u8 (k.toNat:Int))]).run Tryz.prog w=.ok (.slice (some ⟨g,0,none⟩) 1 1) w'∧Chg [] w w'∧RdB w' (some ⟨g,0,none⟩) 1 1 [k]:=by
 obtain ⟨g,w',r,c,h,_⟩:=vl bT [.int .u8 (k.toNat:Int)] (by simp [Value.oneCell']) (by simp) w
 exact ⟨g,w',r,c,h⟩

theorem kyA (w:World):(isAgg 41).run Tryz.prog w=.ok true w:=Tryz.isAgg41 w
theorem kyS (w:World):(sizeOf 41).run Tryz.prog w=.ok 96 w:=Tryz.sizeOf41 w
theorem kyZ (w:World):(zeroValue 41).run Tryz.prog w=.ok (.agg (bv (List.replicate 96 0)).toArray) w:=Tryz.zeroValue41 w
theorem idS (w:World):(sizeOf 87).run Tryz.prog w=.ok 32 w:=Tryz.sizeOf87 w
theorem idA (w:World):(isAgg 87).run Tryz.prog w=.ok true w:=Tryz.isAgg87 w
theorem idZ (w:World):(zeroValue 87).run Tryz.prog w=.ok (.agg (bv (List.replicate 32 0)).toArray) w:=Tryz.zeroValue87 w
theorem N6 (w:World):(isAgg 287).run Tryz.prog w=.ok true w:=Tryz.isAgg287 w
theorem My (w:World):(sizeOf 287).run Tryz.prog w=.ok 12 w:=Tryz.sizeOf287 w
theorem Nn (w:World):(zeroValue 287).run Tryz.prog w=.ok (.agg (bv (List.replicate 12 0)).toArray) w:=Tryz.zeroValue287 w

theorem Fh:Tryz.prog.built 41=fun parts=>Instr.fill (fun i=>(#[(0,32),(32,32),(64,32)]:Array (Nat×Nat))[i]?) (bv (List.replicate 96 0)).toArray parts:=by kernel_rfl

theorem y3 {a b c:List UInt8} (ha:a.length=32) (hb:b.length=32) (hc:c.length=32) (w:World):(Instr.build 41 #[(0,.agg (bv a).toArray),(1,.agg (bv b).toArray),(2,.agg (bv c).toArray)]).run Tryz.prog w=.ok (.agg (bv (a++b++c)).toArray) w:=by
 apply run_build
 rw [Fh]
 show Instr.fill _ _ [(0,.agg (bv a).toArray),(1,.agg (bv b).toArray),(2,.agg (bv c).toArray)]=_
 have z:∀n,(bv (List.replicate 96 0)).drop n=bv (List.replicate (96-n) 0):=fun n=>by rw [←dc,List.drop_replicate]
 rw [aA (off:=0) (sz:=32) rfl (by simp [Value.cells,ha]) (by simp)]
 simp only [Value.cells,List.take_zero,List.nil_append,Nat.zero_add,z]
 rw [aA (off:=32) (sz:=32) rfl (by simp [Value.cells,hb]) (by simp [ha])]
 simp only [Value.cells]
 rw [List.take_left' (by simp [ha]),show 32+32=(bv a).length+32 by simp [ha],List.drop_append,List.drop_of_length_le (by omega),show (bv a).length+32- (bv a).length=32 by omega,←dc,List.drop_replicate]
 rw [aA (off:=64) (sz:=32) rfl (by simp [Value.cells,hc]) (by simp [ha,hb])]
 simp only [Value.cells,List.nil_append]
 rw [List.take_left' (by simp [ha,hb]),List.drop_of_length_le (by simp [ha,hb])]
 simp [Instr.fill]

theorem tQ (a0:Option Addr) (n0 c0:Nat) (salt:List UInt8) (a1:Option Addr) (n1 c1:Nat) (secret:List UInt8) (s:ByteArray) (info:List UInt8) (w:World) (hs:s=⟨info.toArray⟩) (hK:cR w) (hr0:RdB w a0 n0 c0 salt) (hr1:RdB w a1 n1 c1 secret) (hb:n0+n1+info.length≤1099511627776):
   Calls Tryz.prog 227 #[.slice a0 n0 c0,.slice a1 n1 c1,.string s] w fun e w'=>e=.returned (.agg (bv (jq salt secret info)).toArray)∧Chg [] w w':=by
 apply wh
 obtain ⟨g6,w1,r1,h1⟩:=(St.start w).az dP
 obtain ⟨g7,w2,r2,h2⟩:=h1.az dP
 obtain ⟨g3,c3,w3,r3,hc3,hr3,_⟩:=ug s info hs w2
 have h3:=h2.same hc3
 refine ⟨_,_,r1,_,_,r2,_,_,_,_,r3,(Ep a0 n0 c0 salt a1 n1 c1 secret _ info.length c3 info 32 w3 (hK.an h3.chg) (h3.rd1 hr0) (h3.rd1 hr1) hr3 hb).mono ?_⟩
 rintro e w4 (⟨hx,_⟩ | ⟨_,_,a,n,c,rfl,hf⟩)
 · omega
 have h4:=h3.same hf.1
 have hd:iB salt secret info (Int.toNat 32)=jq salt secret info:=rfl
 rw [hd] at hf
 have hn:n=32:=by rw [←hf.2.1];simp
 subst hn
 obtain ⟨w5,r5,h5⟩:=h4.Gt (i:=1) (d:=32) rfl (by simp) hf.rdB (by omega)
 rw [List.drop_of_length_le (by simp),List.append_nil] at h5
 obtain ⟨w6,r6,h6⟩:=h5.stA (i:=0) (v:=bv (jq salt secret info)) rfl (cz _) (by simp) (by simp) (aG _)
 exact ⟨_,_,_,_,rfl,by omega,by omega,_,w5,r5,_,h5.ldA (i:=1) rfl (jv _) (cz _) (by simp),w6,r6,_,h6.bF (i:=0) (l:=bv (jq salt secret info)) rfl (jv _) (cz _) (by simp),rfl,h6.chg⟩

theorem pQ (l:List UInt8) (hb:l.length≤16777216) (w:World):∃g w1 w2,(Instr.buildSlice 26 l.length (((bv l).zipIdx 0).map fun p=>(p.2,p.1)).toArray).run Tryz.prog w=.ok (.slice (some ⟨g,0,none⟩) l.length l.length) w1∧
   (convert 26 26 (.slice (some ⟨g,0,none⟩) l.length l.length)).run Tryz.prog w1=.ok (.slice (some ⟨g,0,none⟩) l.length l.length) w2∧Chg [] w w2∧RdB w2 (some ⟨g,0,none⟩) l.length l.length l:=by
 obtain ⟨g,w1,r1,c1,h1,hg,hg1⟩:=vl bT (bv l) (aG l) (by simpa using hb) w
 rw [cL] at r1 h1
 obtain ⟨w2,r2,c2,h2⟩:=Hx g _ _ l w1 h1 hg1
 exact ⟨g,w1,w2,r1,r2,c1.trans' c2 (fun i hi=>.inl (by simp at hi;omega)),h2⟩

theorem nq (m:List UInt8) (w:World) (hm:m.length=32) (hK:cR w):
   Calls Tryz.prog 143 #[.agg (bv m).toArray] w fun e w'=>e=.returned (.agg (bv (bw m)).toArray)∧Chg [] w w':=by
 apply rL
 obtain ⟨g1,w1,r1,h1⟩:=(St.start w).b7 39 (bv m)
 obtain ⟨g2,w2,r2,h2⟩:=h1.az kyZ
 obtain ⟨g3,w3,w4,r3,r4,c4,hr4⟩:=pQ oh (by decide) w2
 have h4:=(h2.same c4).drew
 have hd:=Chg.drew [] w4
 have dd:∀w' (i:List UInt8) (s:ByteArray),s=⟨i.toArray⟩→i.length≤1000→Chg [] w4.drew w'→Calls Tryz.prog 227 #[.slice (some ⟨g3,0,none⟩) 7 7,.slice (some ⟨g1,0,none⟩) 32 32,.string s] w' fun e w''=>e=.returned (.agg (bv (jq oh m i)).toArray)∧Chg [] w' w'':=fun w' i s hs hi hc=>
   tQ _ 7 7 oh _ 32 32 m s i w' hs (hK.an (h4.chg.trans hc)) (hr4.an (hd.trans hc)) ((h4.same hc).rdA (i:=0) rfl (by simp [hm])) (by omega)
 refine ⟨g1,w1,r1,g2,w2,r2,_,_,_,_,r3,_,_,_,_,r4,fun w'=>Chg [] w4.drew w',Chg.refl _ _,by omega,by omega,by omega,by omega,by omega,by omega,(dd _ [99,105,112,104,101,114] _ rfl (by decide) (Chg.refl _ _)).mono ?_⟩
 rintro e w5 ⟨rfl,c5⟩
 refine ⟨_,rfl,fun w'=>Chg [] w4.drew w',fun _ h=>h,c5,(dd _ [109,97,99] _ rfl (by decide) c5).mono ?_⟩
 rintro e w6 ⟨rfl,c6⟩
 have d6:=c5.trans c6
 refine ⟨_,rfl,fun w'=>Chg [] w4.drew w',fun _ h=>h,d6,(dd _ [110,97,109,101] _ rfl (by decide) d6).mono ?_⟩
 rintro e w7 ⟨rfl,c7⟩
 have d7:=d6.trans c7
 obtain ⟨w8,r8,h8⟩:=(h4.same d7).stA (i:=1) (v:=bv (bw m)) rfl (kyS _) (by simp) (by simp) (aG _)
 exact ⟨_,rfl,fun w'=>Chg [] w4.drew w',fun _ h=>h,d7,_,fun w' _=>y3 (j0 _ _ _) (j0 _ _ _) (j0 _ _ _) w',w8,r8,_,h8.bF (i:=1) (l:=bv (bw m)) rfl (kyA _) (kyS _) (by simp),rfl,h8.chg⟩

theorem yy (K:List UInt8) (a1:Option Addr) (c1:Nat) (nonce:List UInt8) (a2:Option Addr) (n2 c2:Nat) (b:List UInt8) (w:World) (hk:K.length=96) (hr1:RdB w a1 12 c1 nonce) (hr2:RdB w a2 n2 c2 b) (hb:n2≤1099511627776):
   Calls Tryz.prog 199 #[.agg (bv K).toArray,.slice a1 12 c1,.slice a2 n2 c2] w fun e w'=>∃a n c,e=.returned (.slice a n c)∧aS w w' a n c (gH K nonce b):=by
 have hl:=hr1.bh
 apply B6
 obtain ⟨g1,w1,r1,h1⟩:=(St.start w).b7 41 (bv K)
 obtain ⟨g2,w2,r2,h2⟩:=h1.az Nn
 obtain ⟨w3,r3,h3⟩:=h2.Gt (i:=1) (d:=12) rfl (by simp) (h2.rd1 hr1) (by omega)
 rw [List.drop_of_length_le (by simp),List.append_nil] at h3
 have hld:=h3.G1 (i:=0) (l:=bv K) rfl (jv _) (cz _) (by simp [hk])
 rw [←fV] at hld
 refine ⟨g1,w1,r1,g2,w2,r2,by omega,by omega,_,w3,r3,_,hld,_,h3.ldA (i:=1) (l:=bv nonce) rfl (N6 _) (My _) (by simp [hl]),(J3 (K.take 32) nonce 0 a2 n2 c2 b w3 (by simp [hk]) hl (by omega) (by omega) (h3.rd1 hr2) (by omega)).mono ?_⟩
 rintro e w4 ⟨a,n,c,rfl,hf⟩
 exact ⟨_,_,_,_,rfl,_,_,_,rfl,aS.after hf h3.chg⟩

theorem s6 {w0 w:World} {M:List Res} (h:St w0 [] w M) {i g T:Nat} {K:List UInt8} (hi:M[i]?=some (.arr g T (bv K))) (hk:K.length=96):RdB w (some ⟨g,32,none⟩) 32 32 (G4 K)∧RdB w (some ⟨g,64,none⟩) 32 32 (lp K):=
 ⟨h.Kw hi (by omega),h.Kw hi (by omega)⟩

theorem D2 (K:List UInt8) (k:UInt8) (a2:Option Addr) (n2 c2:Nat) (ctx:List UInt8) (a3:Option Addr) (n3 c3:Nat) (nonce:List UInt8) (a4:Option Addr) (n4 c4:Nat) (body:List UInt8) (w:World) (hk:K.length=96) (hK:cR w) (hr2:RdB w a2 n2 c2 ctx) (hr3:RdB w a3 n3 c3 nonce) (hr4:RdB w a4 n4 c4 body) (hb:n2+n3+n4≤67108000):
   Calls Tryz.prog 200 #[.agg (bv K).toArray,.int .u8 (k.toNat:Int),.slice a2 n2 c2,.slice a3 n3 c3,.slice a4 n4 c4] w fun e w'=>e=.returned (.agg (bv (nK K k ctx nonce body)).toArray)∧Chg [] w w':=by
 have e2:=hr2.bh
 have e3:=hr3.bh
 have e4:=hr4.bh
 apply D6
 obtain ⟨g1,w1,r1,h1⟩:=(St.start w).b7 41 (bv K)
 obtain ⟨g2,w2,r2,h2⟩:=h1.az dP
 have h2d:=h2.drew
 obtain ⟨g3,w3,r3,c3',q3⟩:=JA k w2.drew
 have h3:=h2d.same c3'
 obtain ⟨g4,w4,r4,c4',q4,_⟩:=vl bbT [.slice (some ⟨g3,0,none⟩) 1 1,.slice a2 n2 c2,.slice a3 n3 c3,.slice a4 n4 c4] (by simp [Value.oneCell']) (by simp) w3
 have h4:=h3.same c4'
 have hrow:eL w4 [.slice (some ⟨g3,0,none⟩) 1 1,.slice a2 n2 c2,.slice a3 n3 c3,.slice a4 n4 c4] [[k],ctx,nonce,body]:=
   (kN (h4.rd1 hr2) (h4.rd1 hr3) (h4.rd1 hr4)).cons (q3.an c4')
 refine ⟨g1,w1,r1,g2,w2,r2,by omega,by omega,_,_,_,_,r3,_,_,_,_,r4,(pO _ 4 4 _ [[k],ctx,nonce,body] w4 q4 hrow (by simp;omega) (by simp)).mono ?_⟩
 rintro e w5 ⟨a5,n5,c5,rfl,hf5⟩
 have h5:=h4.same hf5.1
 obtain ⟨g6,w6,r6,c6',q6,_⟩:=vl bbT [.slice a5 n5 c5] (by simp [Value.oneCell']) (by simp) w5
 have h6:=h5.same c6'
 have hpl:(bN [[k],ctx,nonce,body]).length≤67109864:=by
   have:=jd [[k],ctx,nonce,body] (by simp;omega)
   simp at this ⊢
   omega
 refine ⟨_,_,_,rfl,_,_,_,_,r6,(oJ _ 32 32 (G4 K) _ 1 1 _ [bN [[k],ctx,nonce,body]] w6 (hK.an h6.chg) (s6 h6 (i:=0) rfl hk).1 (by omega) q6 (dU (hf5.rdB.an c6')) (by rw [List.flatten_cons,List.flatten_nil,List.append_nil];omega) (by decide)).mono ?_⟩
 rintro e w7 ⟨rfl,c7⟩
 have e1: [bN [[k],ctx,nonce,body]].flatten=bN [[k],ctx,nonce,body]:=by rw [List.flatten_cons,List.flatten_nil,List.append_nil]
 rw [e1]
 obtain ⟨w8,r8,h8⟩:=(h6.same c7).stA (i:=1) (v:=bv (nK K k ctx nonce body)) rfl (cz _) (by simp) (by simp) (aG _)
 exact ⟨_,rfl,w8,r8,_,h8.bF (i:=1) (l:=bv (nK K k ctx nonce body)) rfl (jv _) (cz _) (by simp),rfl,h8.chg⟩

theorem GC (K:List UInt8) (a:Option Addr) (n c:Nat) (plain:List UInt8) (w:World) (hk:K.length=96) (hK:cR w) (hr:RdB w a n c plain) (hb:n≤67108000):
   Calls Tryz.prog 139 #[.agg (bv K).toArray,.slice a n c] w fun e w'=>e=.returned (.agg (bv (idF K plain)).toArray)∧Chg [] w w':=by
 have e2:=hr.bh
 apply EJ
 obtain ⟨g1,w1,r1,h1⟩:=(St.start w).b7 41 (bv K)
 obtain ⟨g2,w2,r2,h2⟩:=h1.az idZ
 obtain ⟨g3,w3,w4,r3,r4,c4,q4⟩:=pQ [99,104,117,110,107] (by decide) w2.drew
 have h4:=h2.drew.same c4
 obtain ⟨g5,w5,r5,c5',q5,_⟩:=vl bbT [.slice (some ⟨g3,0,none⟩) 5 5,.slice a n c] (by simp [Value.oneCell']) (by simp) w4
 have h5:=h4.same c5'
 refine ⟨g1,w1,r1,g2,w2,r2,by omega,by omega,_,_,_,_,r3,_,_,_,_,r4,_,_,_,_,r5,(pO _ 2 2 _ [[99,104,117,110,107],plain] w5 q5 (oc (q4.an c5') (h5.rd1 hr)) (by simp;omega) (by simp)).mono ?_⟩
 rintro e w6 ⟨a6,n6,c6,rfl,hf6⟩
 have h6:=h5.same hf6.1
 obtain ⟨g7,w7,r7,c7',q7,_⟩:=vl bbT [.slice a6 n6 c6] (by simp [Value.oneCell']) (by simp) w6
 have h7:=h6.same c7'
 have hpl:(bN [[99,104,117,110,107],plain]).length≤67109864:=by
   have:=jd [[99,104,117,110,107],plain] (by simp;omega)
   simp at this ⊢
   omega
 refine ⟨_,_,_,rfl,_,_,_,_,r7,(oJ _ 32 32 (lp K) _ 1 1 _ [bN [[99,104,117,110,107],plain]] w7 (hK.an h7.chg) (s6 h7 (i:=0) rfl hk).2 (by omega) q7 (dU (hf6.rdB.an c7')) (by rw [List.flatten_cons,List.flatten_nil,List.append_nil];omega) (by decide)).mono ?_⟩
 rintro e w8 ⟨rfl,c8⟩
 have e1: [bN [[99,104,117,110,107],plain]].flatten=bN [[99,104,117,110,107],plain]:=by rw [List.flatten_cons,List.flatten_nil,List.append_nil]
 rw [e1]
 obtain ⟨w9,r9,h9⟩:=(h7.same c8).stA (i:=1) (v:=bv (idF K plain)) rfl (idS _) (by simp) (by simp [idF]) (aG _)
 exact ⟨_,rfl,w9,r9,_,h9.bF (i:=1) (l:=bv (idF K plain)) rfl (idA _) (idS _) (by simp [idF]),rfl,h9.chg⟩

end Go.Proofs.YtpmhjnhgpplmnaaGreatDoor
end

section
namespace Go.Proofs.YtpmhjnhgpplmnaaGreatDoor
open Go Sx
set_option maxRecDepth 8000

def CV (a1:Int) (a2a:Option Addr) (a2n a2c:Nat) (a3a:Option Addr) (a3n a3c:Nat) (g4 g9:Nat) (t23:Array Value) (R:Ending→World→Prop) (w7:World):Prop:=
 (∃w8:World,(Instr.storeAt 39 (.pointer (some ⟨g9,0,none⟩)) (.agg t23)).run Tryz.prog w7=.ok () w8∧
   (0≤(12:Int)∧(12:Int)≤((32:Nat):Int)∧
   (∃(t25:Array Value),(Instr.loadAt 41 (.pointer (some ⟨g4,0,none⟩))).run Tryz.prog w8=.ok (.agg t25) w8∧
   (Calls Tryz.prog 199 #[(.agg t25),(.slice (some ⟨g9,0,none⟩) 12 32),(.slice a3a a3n a3c)] w8 fun (e28:Ending) (w9:World)=>∃(t28a:Option Addr) (t28n:Nat) (t28c:Nat),e28=.returned (.slice t28a t28n t28c)∧
   (∃(t29:Array Value),(Instr.loadAt 41 (.pointer (some ⟨g4,0,none⟩))).run Tryz.prog w9=.ok (.agg t29) w9∧
   (Calls Tryz.prog 200 #[(.agg t29),(.int .u8 a1),(.slice a2a a2n a2c),(.slice (some ⟨g9,0,none⟩) 12 32),(.slice t28a t28n t28c)] w9 fun (e34:Ending) (w10:World)=>∃(t34:Array Value),e34=.returned (.agg t34)∧
   (∃(g12:Nat) (w11:World),(Instr.alloc 39 true (.tuple #[])).run Tryz.prog w10=.ok (.pointer (some ⟨g12,0,none⟩)) w11∧
   (∃w12:World,(Instr.storeAt 39 (.pointer (some ⟨g12,0,none⟩)) (.agg t34)).run Tryz.prog w11=.ok () w12∧
   (∃(t38a:Option Addr) (t38n:Nat) (t38c:Nat) (w13:World),(Instr.makeSlice 26 (.int .i64 0) (.int .i64 (IntKind.wrap .i64 ((45:Int)+((a3n:Nat):Int))))).run Tryz.prog w12=.ok (.slice t38a t38n t38c) w13∧
   (∃(t40a:Option Addr) (t40n:Nat) (t40c:Nat) (w14:World),(Instr.buildSlice 26 1 #[(0,(.int .u8 a1))]).run Tryz.prog w13=.ok (.slice t40a t40n t40c) w14∧
   (∃(t41a:Option Addr) (t41n:Nat) (t41c:Nat) (w15:World),(Builtin.append_ #[26,26] 26 #[(.slice t38a t38n t38c),(.slice t40a t40n t40c)]).run Tryz.prog w14=.ok (.slice t41a t41n t41c) w15∧
   (∃(t44a:Option Addr) (t44n:Nat) (t44c:Nat) (w16:World),(Builtin.append_ #[26,26] 26 #[(.slice t41a t41n t41c),(.slice (some ⟨g9,0,none⟩) 12 32)]).run Tryz.prog w15=.ok (.slice t44a t44n t44c) w16∧
   (∃(t47a:Option Addr) (t47n:Nat) (t47c:Nat) (w17:World),(Builtin.append_ #[26,26] 26 #[(.slice t44a t44n t44c),(.slice t28a t28n t28c)]).run Tryz.prog w16=.ok (.slice t47a t47n t47c) w17∧
   (0≤((32:Nat):Int)∧((32:Nat):Int)≤((32:Nat):Int)∧
   (∃(t50a:Option Addr) (t50n:Nat) (t50c:Nat) (w18:World),(Builtin.append_ #[26,26] 26 #[(.slice t47a t47n t47c),(.slice (some ⟨g12,0,none⟩) (32) 32)]).run Tryz.prog w17=.ok (.slice t50a t50n t50c) w18∧
   (R (.returned (.slice t50a t50n t50c)) w18))))))))))))))))

theorem Iy (K nonce b:List UInt8):(gH K nonce b).length≤b.length:=by
 rw [gH,zw];split<;>simp

theorem Ca (K:List UInt8) (k:UInt8) (a2:Option Addr) (n2 c2:Nat) (ctx:List UInt8) (a3:Option Addr) (n3 c3:Nat) (plain d:List UInt8) (g4 g9:Nat) (w w7:World) (z:List UInt8) (R:Ending→World→Prop)
   (hk:K.length=96) (hK:cR w) (hr2:RdB w a2 n2 c2 ctx) (hr3:RdB w a3 n3 c3 plain) (hb:n2+n3≤67100000) (hd:d.length=32) (hz:z.length=32) (h7:St w [] w7 [.arr g4 41 (bv K),.arr g9 39 (bv z)])
   (hR:∀a n c w',aS w w' a n c ([k]++d.take 12++gH K (d.take 12) plain++nK K k ctx (d.take 12) (gH K (d.take 12) plain))→R (.returned (.slice a n c)) w'):
   CV (k.toNat:Int) a2 n2 c2 a3 n3 c3 g4 g9 (bv d).toArray R w7:=by
 have e2:=hr2.bh
 have e3:=hr3.bh
 have hv:=Iy K (d.take 12) plain
 obtain ⟨body,hbody⟩:∃b,gH K (d.take 12) plain=b:=⟨_,rfl⟩
 rw [hbody] at hR hv
 obtain ⟨w8,r8,h8⟩:=h7.stA (i:=1) (v:=bv d) rfl (cz _) (by simp [hz]) (by simp [hd]) (aG _)
 have hn:∀w',Chg [] w8 w'→RdB w' (some ⟨g9,0,none⟩) 12 32 (d.take 12):=fun w' hc=>ir (l:=d) ((h8.same hc).rdA (i:=1) rfl (by simp [hd])) (by omega)
 have hl4:∀w',Chg [] w8 w'→(Instr.loadAt 41 (.pointer (some ⟨g4,0,none⟩))).run Tryz.prog w'=.ok (.agg (bv K).toArray) w':=fun w' hc=>(h8.same hc).ldA (i:=0) (l:=bv K) rfl (kyA _) (kyS _) (by simp [hk])
 have hzr:=Chg.refl [] w8
 refine ⟨w8,r8,by omega,by omega,_,hl4 _ hzr,(yy K _ 32 (d.take 12) a3 n3 c3 plain w8 hk (hn _ hzr) (h8.rd1 hr3) (by omega)).mono ?_⟩
 rintro e w9 ⟨a9,n9,c9,rfl,hf9⟩
 rw [hbody] at hf9
 have e9:=hf9.2.1
 refine ⟨_,_,_,rfl,_,hl4 _ hf9.1,(D2 K k a2 n2 c2 ctx _ 12 32 (d.take 12) a9 n9 c9 body w9 hk (hK.an (h8.chg.trans hf9.1)) ((h8.same hf9.1).rd1 hr2) (hn _ hf9.1) hf9.rdB (by omega)).mono ?_⟩
 rintro e w10 ⟨rfl,hc10⟩
 obtain ⟨tg,htg⟩:∃t,nK K k ctx (d.take 12) body=t:=⟨_,rfl⟩
 have htl:tg.length=32:=by rw [←htg];simp
 rw [htg] at hR ⊢
 have h10:St w [] w10 [.arr g4 41 (bv K),.arr g9 39 (bv d),.row 5 1 (.slice a9 n9 c9) n9 (bv body)]:=(hf9.add h8).same hc10
 obtain ⟨g11,w11,r11,h11⟩:=h10.az dP
 obtain ⟨w12,r12,h12⟩:=h11.stA (i:=3) (v:=bv tg) rfl (cz _) (by simp) (by simp [htl]) (aG _)
 have hw:IntKind.wrap .i64 ((45:Int)+(n3:Int))=((45+n3:Nat):Int):=by rw [wrap_i64 (by omega) (by omega)];omega
 obtain ⟨g13,w13,r13,h13⟩:=h12.LV (kl:=.i64) (kc:=.i64) (c:=45+n3) bT (by omega) (by omega)
 obtain ⟨g14,w14,r14,c14,q14⟩:=JA k w13
 have h14:St w [] w14 [.arr g4 41 (bv K),.arr g9 39 (bv d),.row 5 1 (.slice a9 n9 c9) n9 (bv body),.arr g11 39 (bv tg),.row 5 1 (.slice (some ⟨g13,0,none⟩) 0 (45+n3)) 0 (bv [])]:=h13.same c14
 obtain ⟨va,vc,w15,r15,h15⟩:=h14.bL (i:=4) (xs:=[]) rfl q14 (by omega)
 have h15':St w [] w15 [.arr g4 41 (bv K),.arr g9 39 (bv d),.row 5 1 (.slice a9 n9 c9) n9 (bv body),.arr g11 39 (bv tg),.row 5 1 (.slice va 1 vc) 1 (bv [k])]:=h15
 obtain ⟨vb,vd,w16,r16,h16⟩:=h15'.bL (i:=4) rfl (ir (l:=d) (n:=32) (c:=32) (k:=12) (h15'.rdA (i:=1) (n:=32) rfl (by simp [hd])) (by omega)) (by omega)
 have h16':St w [] w16 [.arr g4 41 (bv K),.arr g9 39 (bv d),.row 5 1 (.slice a9 n9 c9) n9 (bv body),.arr g11 39 (bv tg),.row 5 1 (.slice vb (1+12) vd) (1+12) (bv ([k]++d.take 12))]:=h16
 obtain ⟨ve,vf,w17,r17,h17⟩:=h16'.bL (i:=4) rfl (h16'.rd (i:=2) (xs:=bv body) rfl) (by omega)
 have h17':St w [] w17 [.arr g4 41 (bv K),.arr g9 39 (bv d),.row 5 1 (.slice a9 n9 c9) n9 (bv body),.arr g11 39 (bv tg),.row 5 1 (.slice ve (1+12+n9) vf) (1+12+n9) (bv ([k]++d.take 12++body))]:=h17
 obtain ⟨vg,vh,w18,r18,h18⟩:=h17'.bL (i:=4) (m:=32) (l:=tg) rfl (h17'.rdA (i:=3) rfl (by simp [htl])) (by omega)
 rw [hw]
 exact ⟨_,rfl,g11,w11,r11,w12,r12,_,_,_,w13,r13,_,_,_,w14,r14,_,_,_,w15,r15,_,_,_,w16,r16,_,_,_,w17,r17,by omega,by omega,_,_,_,w18,r18,hR _ _ _ _ (h18.iW (i:=4) rfl)⟩

theorem pL (K:List UInt8) (k:UInt8) (a2:Option Addr) (n2 c2:Nat) (ctx:List UInt8) (a3:Option Addr) (n3 c3:Nat) (plain:List UInt8) (w:World)
   (hk:K.length=96) (hK:cR w) (hr2:RdB w a2 n2 c2 ctx) (hr3:RdB w a3 n3 c3 plain) (hb:n2+n3≤67100000):
   Calls Tryz.prog 101 #[.agg (bv K).toArray,.int .u8 (k.toNat:Int),.slice a2 n2 c2,.slice a3 n3 c3] w fun e w'=>∃a n c,e=.returned (.slice a n c)∧aS w w' a n c (dA K k ctx plain):=by
 have e2:=hr2.bh
 have e3:=hr3.bh
 apply Bf
 obtain ⟨g1,w1,r1,h1⟩:=(St.start w).b7 41 (bv K)
 have hd:=Chg.drew [] w1
 have P20:∀w' g,Chg [] w1 w'→RdB w' (some ⟨g,0,none⟩) 1 1 [k]→∃g2 w'',(Instr.buildSlice 24 3 #[(0,.slice (some ⟨g,0,none⟩) 1 1),(1,.slice a2 n2 c2),(2,.slice a3 n3 c3)]).run Tryz.prog w'=.ok (.slice (some ⟨g2,0,none⟩) 3 3) w''∧Chg [] w' w''∧
     Rd w'' (some ⟨g2,0,none⟩) 3 3 1 [.slice (some ⟨g,0,none⟩) 1 1,.slice a2 n2 c2,.slice a3 n3 c3]∧eL w'' [.slice (some ⟨g,0,none⟩) 1 1,.slice a2 n2 c2,.slice a3 n3 c3] [[k],ctx,plain]:=fun w' g hc hr=>by
   obtain ⟨g2,w2,r2,c2',q2,_⟩:=vl bbT [.slice (some ⟨g,0,none⟩) 1 1,.slice a2 n2 c2,.slice a3 n3 c3] (by simp [Value.oneCell']) (by simp) w'
   have hcc:=h1.chg.trans (hc.trans c2')
   exact ⟨g2,w2,r2,c2',q2,kN (hr.an c2') (hr2.an hcc) (hr3.an hcc)⟩
 obtain ⟨P,hP⟩:∃P,bN [[k],ctx,plain]=P:=⟨_,rfl⟩
 have hpl:P.length≤67109864:=by
   have:=jd [[k],ctx,plain] (by simp;omega)
   rw [hP] at this
   simp at this
   omega
 have Ppk:∀w' g2 vs,Rd w' (some ⟨g2,0,none⟩) 3 3 1 vs→eL w' vs [[k],ctx,plain]→Calls Tryz.prog 100 #[.slice (some ⟨g2,0,none⟩) 3 3] w' fun e w''=>∃a n c,e=.returned (.slice a n c)∧aS w' w'' a n c P:=fun w' g2 vs q qr=>by
   have:=pO _ 3 3 vs [[k],ctx,plain] w' q qr (by simp;omega) (by simp)
   rw [hP] at this;exact this
 have P22:∀w' a n c,RdB w' a n c P→∃g2 w'',(Instr.buildSlice 24 1 #[(0,.slice a n c)]).run Tryz.prog w'=.ok (.slice (some ⟨g2,0,none⟩) 1 1) w''∧Chg [] w' w''∧Rd w'' (some ⟨g2,0,none⟩) 1 1 1 [.slice a n c]∧eL w'' [.slice a n c] [P]:=fun w' a n c hr=>by
   obtain ⟨g2,w2,r2,c2',q2,_⟩:=vl bbT [.slice a n c] (by simp [Value.oneCell']) (by simp) w'
   exact ⟨g2,w2,r2,c2',q2,dU (hr.an c2')⟩
 have Pm:∀w' g2 vs,Chg [] w1 w'→Rd w' (some ⟨g2,0,none⟩) 1 1 1 vs→eL w' vs [P]→Calls Tryz.prog 198 #[.slice (some ⟨g1,64,none⟩) 32 32,.slice (some ⟨g2,0,none⟩) 1 1] w' fun e w''=>e=.returned (.agg (bv (dw (lp K) P)).toArray)∧Chg [] w' w'':=fun w' g2 vs hc q qr=>by
   have e1: [P].flatten=P:=by rw [List.flatten_cons,List.flatten_nil,List.append_nil]
   have:=oJ _ 32 32 (lp K) _ 1 1 vs [P] w' (hK.an (h1.chg.trans hc)) (s6 (h1.same hc) (i:=0) rfl hk).2 (by omega) q qr (by rw [e1];omega) (by decide)
   rw [e1] at this;exact this
 have hR:∀a n c w',aS w w' a n c ([k]++(dw (lp K) P).take 12++gH K ((dw (lp K) P).take 12) plain++nK K k ctx ((dw (lp K) P).take 12) (gH K ((dw (lp K) P).take 12) plain))→∃a' n' c',Ending.returned (.slice a n c)=.returned (.slice a' n' c')∧aS w w' a' n' c' (dA K k ctx plain):=fun a n c w' hf=>⟨a,n,c,rfl,by rw [dA,iz,hP];exact hf⟩
 have tail:∀g9 w7,St w [] w7 [.arr g1 41 (bv K),.arr g9 39 (bv (List.replicate 32 0))]→CV (k.toNat:Int) a2 n2 c2 a3 n3 c3 g1 g9 (bv (dw (lp K) P)).toArray (fun e w'=>∃a n c,e=.returned (.slice a n c)∧aS w w' a n c (dA K k ctx plain)) w7:=fun g9 w7 h7=>
   Ca K k a2 n2 c2 ctx a3 n3 c3 plain _ g1 g9 w w7 _ _ hk hK hr2 hr3 hb (pe _ _) (by simp) h7 hR
 obtain ⟨g3,w3,r3,c3',q3⟩:=JA k w1.drew
 have d3:=hd.trans c3'
 obtain ⟨g4,w4,r4,c4',q4,qr4⟩:=P20 w3 g3 d3 q3
 have d4:=d3.trans c4'
 refine ⟨g1,w1,r1,by omega,by omega,⟨_,_,_,_,r3,⟨_,_,_,_,r4,(Ppk w4 g4 _ q4 qr4).mono ?_,?_⟩,?_⟩,?_⟩
 · rintro e w5 ⟨a5,n5,c5,rfl,hf5⟩
   have d5:=d4.trans hf5.1
   refine ⟨_,_,_,rfl,?_,?_⟩
   · obtain ⟨g6,w6,r6,c6',q6,qr6⟩:=P22 w5 _ _ _ hf5.rdB
     have d6:=d5.trans c6'
     refine ⟨_,_,_,_,r6,(Pm w6 g6 _ d6 q6 qr6).mono ?_,?_⟩
     · rintro e w7 ⟨rfl,c7⟩
       obtain ⟨g9,w9,r9,h9⟩:=(h1.same (d6.trans c7)).az dP
       exact ⟨_,rfl,g9,w9,r9,tail g9 w9 h9⟩
     · obtain ⟨g9,w9,r9,h9,c9⟩:=(h1.same d6).xE dP
       refine ⟨g9,w9,r9,(Pm w9 g6 _ (d6.trans c9) (q6.an c9) (qr6.an c9)).mono ?_⟩
       rintro e w10 ⟨rfl,c10⟩
       exact ⟨_,rfl,tail g9 w10 (h9.same c10)⟩
   · obtain ⟨g9,w9,r9,h9,c9⟩:=(h1.same d5).xE dP
     obtain ⟨g6,w6,r6,c6',q6,qr6⟩:=P22 w9 _ _ _ (hf5.rdB.an c9)
     refine ⟨g9,w9,r9,_,_,_,_,r6,(Pm w6 g6 _ ((d5.trans c9).trans c6') q6 qr6).mono ?_⟩
     rintro e w10 ⟨rfl,c10⟩
     exact ⟨_,rfl,tail g9 w10 (h9.same (c6'.trans c10))⟩
 · obtain ⟨g9,w9,r9,h9,c9⟩:=(h1.same d4).xE dP
   refine ⟨g9,w9,r9,(Ppk w9 g4 _ (q4.an c9) (qr4.an c9)).mono ?_⟩
   rintro e w5 ⟨a5,n5,c5,rfl,hf5⟩
   have d5:=(d4.trans c9).trans hf5.1
   obtain ⟨g6,w6,r6,c6',q6,qr6⟩:=P22 w5 _ _ _ hf5.rdB
   refine ⟨_,_,_,rfl,_,_,_,_,r6,(Pm w6 g6 _ (d5.trans c6') q6 qr6).mono ?_⟩
   rintro e w10 ⟨rfl,c10⟩
   exact ⟨_,rfl,tail g9 w10 (h9.same (hf5.1.trans (c6'.trans c10)))⟩
 · obtain ⟨g9,w9,r9,h9,c9⟩:=(h1.same d3).xE dP
   obtain ⟨g4,w4,r4,c4',q4,qr4⟩:=P20 w9 g3 (d3.trans c9) (q3.an c9)
   refine ⟨g9,w9,r9,_,_,_,_,r4,(Ppk w4 g4 _ q4 qr4).mono ?_⟩
   rintro e w5 ⟨a5,n5,c5,rfl,hf5⟩
   have d5:=((d3.trans c9).trans c4').trans hf5.1
   obtain ⟨g6,w6,r6,c6',q6,qr6⟩:=P22 w5 _ _ _ hf5.rdB
   refine ⟨_,_,_,rfl,_,_,_,_,r6,(Pm w6 g6 _ (d5.trans c6') q6 qr6).mono ?_⟩
   rintro e w10 ⟨rfl,c10⟩
   exact ⟨_,rfl,tail g9 w10 (h9.same ((c4'.trans hf5.1).trans (c6'.trans c10)))⟩
 · obtain ⟨g9,w9,r9,h9,c9⟩:=(h1.same hd).xE dP
   obtain ⟨g3,w3,r3,c3',q3⟩:=JA k w9
   have d3:=(hd.trans c9).trans c3'
   obtain ⟨g4,w4,r4,c4',q4,qr4⟩:=P20 w3 g3 d3 q3
   refine ⟨g9,w9,r9,_,_,_,_,r3,_,_,_,_,r4,(Ppk w4 g4 _ q4 qr4).mono ?_⟩
   rintro e w5 ⟨a5,n5,c5,rfl,hf5⟩
   have d5:=(d3.trans c4').trans hf5.1
   obtain ⟨g6,w6,r6,c6',q6,qr6⟩:=P22 w5 _ _ _ hf5.rdB
   refine ⟨_,_,_,rfl,_,_,_,_,r6,(Pm w6 g6 _ (d5.trans c6') q6 qr6).mono ?_⟩
   rintro e w10 ⟨rfl,c10⟩
   exact ⟨_,rfl,tail g9 w10 (h9.same ((c3'.trans (c4'.trans hf5.1)).trans (c6'.trans c10)))⟩

def jD (K:List UInt8) (kind:UInt8) (ctx b:List UInt8):Option Int:=if (dJ K kind ctx b).isSome then none else some 10

theorem AN (K:List UInt8) (k:UInt8) (a2:Option Addr) (n2 c2:Nat) (ctx:List UInt8) (a3:Option Addr) (n3 c3:Nat) (b:List UInt8) (w:World)
   (hk:K.length=96) (hK:cR w) (hr2:RdB w a2 n2 c2 ctx) (hr3:RdB w a3 n3 c3 b) (hb:n2+n3≤67100000):
   Calls Tryz.prog 111 #[.agg (bv K).toArray,.int .u8 (k.toNat:Int),.slice a2 n2 c2,.slice a3 n3 c3] w fun e w'=>∃a n c,e=.returned (.tuple #[.slice a n c,bk (jD K k ctx b)])∧aS w w' a n c ((dJ K k ctx b).getD []):=by
 have e2:=hr2.bh
 have e3:=hr3.bh
 have hle:=hr3.le
 apply BB
 obtain ⟨g1,w1,r1,h1⟩:=(St.start w).b7 41 (bv K)
 have bad:∀w',Chg [] w w'→dJ K k ctx b=none→∃a n c,Ending.returned (.tuple #[.slice none 0 0,.iface 65 (.int .i64 10)])=.returned (.tuple #[.slice a n c,bk (jD K k ctx b)])∧aS w w' a n c ((dJ K k ctx b).getD []):=fun w' hc hn=>by
   refine ⟨none,0,0,?_,?_⟩
   · rw [jD,hn];rfl
   · rw [hn];exact ⟨hc,rfl,World.ownsRow_nil _ _ _ _⟩
 refine ⟨g1,w1,r1,fun x w'=>x=decide (b.length<45∨b.getD 0 0≠k)∧w'=w1,⟨fun h=>?_,fun h=>?_⟩,?_⟩
 · have:b.length<45:=by simp at h;omega
   exact ⟨by simp [this],rfl⟩
 · have h45:¬b.length<45:=by simp at h;omega
   refine ixB (bA _) (h1.rd1 hr3).cells e3 (by omega) (by omega) fun bl o hbo=>⟨?_,rfl⟩
   have:(0:Int).toNat=0:=rfl
   rw [this]
   by_cases hx:b.getD 0 0=k
   · rw [hx];simp [h45]
   · have hx2:((b.getD 0 0).toNat:Int)≠(k.toNat:Int):=fun e=>hx (by apply UInt8.toNat_inj.1;omega)
     rw [bne_iff_ne.2 hx2]
     exact (decide_eq_true (.inr hx)).symm
 rintro x w2 ⟨rfl,rfl⟩
 refine ⟨fun h=>bad _ h1.chg ?_,fun h=>?_⟩
 · have h':b.length<45∨b.getD 0 0≠k:=by simpa using h
   rw [dJ,if_pos h']
 have h':¬(b.length<45∨b.getD 0 0≠k):=by simpa using h
 have hof:dJ K k ctx b=if nK K k ctx (cr b) (bBody b)=qo b then some (gH K (cr b) (bBody b)) else none:=by rw [dJ,if_neg h']
 have h45:45≤b.length:=by
   rcases Nat.lt_or_ge b.length 45 with h | h
   · exact absurd (.inl h) h'
   · exact h
 clear h h'
 have hw:IntKind.wrap .i64 ((n3:Int)-32)=((n3-32:Nat):Int):=by rw [wrap_i64 (by omega) (by omega)];omega
 rw [hw]
 have hdw:=Chg.drew [] w2
 have h1d:=h1.same hdw
 refine ⟨by omega,by omega,by omega,fun t29 hs29=>⟨by omega,by omega,by omega,fun t32 hs32=>?_⟩⟩
 have q3:=h1d.rd1 hr3
 have qn:RdB w2.drew t29 12 (c3-1) (cr b):=by
   have:=q3.sub hs29 (hh:=13) (by omega) (by omega) (by omega) (Nat.le_refl _)
   have e1:((bv b).drop (1*1)).take ((13-1)*1)=bv (cr b):=by rw [cr,fV,dc]
   rw [e1] at this
   exact this
 have qb:RdB w2.drew t32 (n3-32-13) (c3-13) (bBody b):=by
   have:=q3.sub hs32 (hh:=n3-32) (by omega) (by omega) (by omega) (Nat.le_refl _)
   have e1:((bv b).drop (13*1)).take ((n3-32-13)*1)=bv (bBody b):=by rw [bBody,fV,dc,e3];congr 1;omega
   rw [e1] at this
   exact this
 have hl4:∀w',Chg [] w2.drew w'→(Instr.loadAt 41 (.pointer (some ⟨g1,0,none⟩))).run Tryz.prog w'=.ok (.agg (bv K).toArray) w':=fun w' hc=>(h1d.same hc).ldA (i:=0) (l:=bv K) rfl (kyA _) (kyS _) (by simp [hk])
 rw [Int.toNat_natCast]
 refine ⟨_,hl4 _ (Chg.refl _ _),(D2 K k a2 n2 c2 ctx t29 12 (c3-1) (cr b) t32 (n3-32-13) (c3-13) (bBody b) _ hk (hK.an h1d.chg) (h1d.rd1 hr2) qn qb (by omega)).mono ?_⟩
 rintro e w3 ⟨rfl,c3'⟩
 obtain ⟨tg,htg⟩:∃t,nK K k ctx (cr b) (bBody b)=t:=⟨_,rfl⟩
 have htl:tg.length=32:=by rw [←htg];simp
 rw [htg] at hof ⊢
 obtain ⟨g4,w4,r4,h4⟩:=(St.start w2.drew |>.same c3').az dP
 obtain ⟨w5,r5,h5⟩:=h4.stA (i:=0) (v:=bv tg) rfl (cz _) (by simp) (by simp [htl]) (aG _)
 have h5d:=h5.drew
 refine ⟨_,rfl,g4,w4,r4,w5,r5,by omega,by omega,by omega,by omega,by omega,fun t42 hs42=>?_⟩
 have qt:RdB w5.drew t42 (n3- (n3-32)) (c3- (n3-32)) (qo b):=by
   have:=(q3.an h5d.chg).sub hs42 (hh:=n3) (by omega) (Nat.le_refl _) (by omega) (Nat.le_refl _)
   have e1:((bv b).drop ((n3-32)*1)).take ((n3- (n3-32))*1)=bv (qo b):=by
     rw [qo,dc,e3,List.take_of_length_le (by simp;omega)];congr 1;omega
   rw [e1] at this
   exact this
 refine (FD _ 32 32 tg t42 _ _ (qo b) _ (h5d.rdA (i:=0) rfl (by simp [htl])) qt (by omega)).mono ?_
 rintro e w6 ⟨rfl,c6⟩
 have d6:=h5d.chg.trans c6
 refine ⟨_,rfl,fun h=>bad _ (h1d.chg.trans d6) ?_,fun h=>?_⟩
 · have:¬tg=qo b:=by simpa using h
   rw [hof,if_neg this]
 · have ht:tg=qo b:=by simpa using h
   rw [if_pos ht] at hof
   refine ⟨_,hl4 _ d6,(yy K t29 (c3-1) (cr b) t32 (n3-32-13) (c3-13) (bBody b) w6 hk (qn.an d6) (qb.an d6) (by omega)).mono ?_⟩
   rintro e w7 ⟨a7,n7,c7,rfl,hf7⟩
   refine ⟨_,_,_,rfl,a7,n7,c7,?_,?_⟩
   · rw [jD,hof];rfl
   · rw [hof]
     exact aS.after hf7 (h1d.chg.trans d6)

end Go.Proofs.YtpmhjnhgpplmnaaGreatDoor
end

section
namespace Go.Proofs.YtpmhjnhgpplmnaaGreatDoor
open Go Sx
set_option maxRecDepth 8000
set_option maxRecDepth 100000

theorem I2 (salt secret info:List UInt8):jq salt secret info=dw (dw salt secret) (info++ [1]):=by
 have:jq salt secret info=(p7 (dw salt secret) info 1).take 32:=rfl
 rw [this,List.take_of_length_le (by rw [Dt];decide)]
 simp only [p7,tF,List.nil_append]
 rfl

theorem K2 (key nonce:List UInt8) (p:Nat) (l:List UInt8):sJ key nonce p (sJ key nonce p l)=l:=by
 apply List.ext_getElem?
 intro i
 simp only [sJ,List.getElem?_mapIdx]
 cases l[i]? with
 | none=>rfl
 | some b=>simp [UInt8.xor_assoc]

theorem pU (K nonce plain:List UInt8) (h:plain.length≤274877906944):gH K nonce (gH K nonce plain)=plain∧(gH K nonce plain).length=plain.length:=by
 have h1:∀l:List UInt8,l.length≤274877906944→gH K nonce l=sJ (C9 K) nonce 0 l:=fun l hl=>by
   have:jC 0 l.length=true:=by simp [jC];omega
   rw [gH,zw,if_pos this];rfl
 rw [h1 plain h,h1 _ (by rw [Dm];exact h),K2,Dm]
 exact ⟨rfl,rfl⟩

theorem fW (K:List UInt8) (k:UInt8) (ctx plain:List UInt8) (h:plain.length≤274877906944):(dA K k ctx plain).length=plain.length+45:=by
 simp [dA,(pU K (iz K k ctx plain) plain h).2];omega

theorem Es (K:List UInt8) (k:UInt8) (ctx plain:List UInt8) (h:plain.length≤274877906944):(dA K k ctx plain).getD 0 0=k∧cr (dA K k ctx plain)=iz K k ctx plain∧bBody (dA K k ctx plain)=gH K (iz K k ctx plain) plain∧
   qo (dA K k ctx plain)=nK K k ctx (iz K k ctx plain) (gH K (iz K k ctx plain) plain):=by
 have hl:=fW K k ctx plain h
 have h2:=(pU K (iz K k ctx plain) plain h).2
 have hn:=FJ K k ctx plain
 obtain ⟨nn,hnn⟩:∃n,iz K k ctx plain=n:=⟨_,rfl⟩
 obtain ⟨bd,hbd⟩:∃n,gH K nn plain=n:=⟨_,rfl⟩
 rw [hnn] at h2 hn ⊢
 rw [hbd] at h2 ⊢
 obtain ⟨tg,htg⟩:∃n,nK K k ctx nn bd=n:=⟨_,rfl⟩
 have ht:tg.length=32:=by rw [←htg];simp
 have hs:dA K k ctx plain=[k]++nn++bd++tg:=by rw [dA,hnn,hbd,htg]
 rw [htg]
 rw [bBody,qo,hl,hs,cr]
 have d1:([k]++nn++bd++tg).drop 1=nn++(bd++tg):=by simp
 have d13:([k]++nn++bd++tg).drop 13=bd++tg:=by
   rw [List.append_assoc];exact List.drop_left' (by simp [hn])
 refine ⟨by simp,?_,?_,?_⟩
 · rw [d1];exact List.take_left' hn
 · rw [d13];exact List.take_left' (by omega)
 · exact List.drop_left' (by simp [hn,h2];omega)

theorem xy (K:List UInt8) (k:UInt8) (ctx plain:List UInt8) (h:plain.length≤274877906944):dJ K k ctx (dA K k ctx plain)=some plain:=by
 obtain ⟨p1,p2,p3,p4⟩:=Es K k ctx plain h
 have hl:=fW K k ctx plain h
 rw [dJ,if_neg (by rw [p1,hl];simp),p2,p3,p4,if_pos rfl,(pU K _ plain h).1]

end Go.Proofs.YtpmhjnhgpplmnaaGreatDoor
end

section
namespace Go.Proofs.YtpmhjnhgpplmnaaGreatDoor
open Go Sx
set_option maxRecDepth 8000

theorem Cj {T:TypeId} {m} (hT:Tryz.prog.underlying T=some (.interface m)) (o:Option Int) (n:Int) (x y:Operand) (w:World):(dK .eql T x y (bk o) (.iface 65 (.int .i64 n))).run Tryz.prog w=.ok (.bool (decide (o=some n))) w:=by
 have hE:=Tryz.underlying65
 have hI:(typeInfo 65).run Tryz.prog w=.ok Tryz.t65 w:=by
   simp [typeInfo,show Tryz.prog.info? 65=some Tryz.t65 by kernel_rfl]
 have hc:Tryz.t65.comparable=true:=by kernel_rfl
 have h1:∀d k,(Op.equalIn (d+2) T (.iface 65 (.int .i64 k)) (.iface 65 (.int .i64 n))).run Tryz.prog w=.ok (k==n) w:=fun d k=>by
   simp [Op.equalIn,run_underlying hT,run_underlying hE,hI,hc]
 have h2:∀d U v,(Op.equalIn (d+1) T .nilIface (.iface U v)).run Tryz.prog w=.ok false w:=fun d U v=>by simp [Op.equalIn,run_underlying hT]
 cases o with
 | none=>simp [dK,eqGuard,bk,binOp,Op.equal,show Op.maxDepth=9999+1 from rfl,h2 9999]
 | some k=>
   have h3:(some k=some n)=(k=n):=by simp
   simp only [h3]
   have h4:decide (k=n)=(k==n):=rfl
   rw [h4]
   simp [dK,eqGuard,bk,binOp,Op.equal,show Op.maxDepth=9998+2 from rfl,h1 9998]

theorem lY {T:TypeId} {m} (hT:Tryz.prog.underlying T=some (.interface m)) (o:Option Int) (n:Int) (x y:Operand) (w:World):(dK .neq T x y (bk o) (.iface 65 (.int .i64 n))).run Tryz.prog w=.ok (.bool (!decide (o=some n))) w:=by
 have hE:=Tryz.underlying65
 have hI:(typeInfo 65).run Tryz.prog w=.ok Tryz.t65 w:=by
   simp [typeInfo,show Tryz.prog.info? 65=some Tryz.t65 by kernel_rfl]
 have hc:Tryz.t65.comparable=true:=by kernel_rfl
 have h1:∀d k,(Op.equalIn (d+2) T (.iface 65 (.int .i64 k)) (.iface 65 (.int .i64 n))).run Tryz.prog w=.ok (k==n) w:=fun d k=>by
   simp [Op.equalIn,run_underlying hT,run_underlying hE,hI,hc]
 have h2:∀d U v,(Op.equalIn (d+1) T .nilIface (.iface U v)).run Tryz.prog w=.ok false w:=fun d U v=>by simp [Op.equalIn,run_underlying hT]
 cases o with
 | none=>simp [dK,eqGuard,bk,binOp,Op.equal,show Op.maxDepth=9999+1 from rfl,h2 9999]
 | some k=>
   have h3:(some k=some n)=(k=n):=by simp
   simp only [h3]
   have h4:decide (k=n)=(k==n):=rfl
   rw [h4]
   simp [dK,eqGuard,bk,binOp,Op.equal,show Op.maxDepth=9998+2 from rfl,h1 9998]

end Go.Proofs.YtpmhjnhgpplmnaaGreatDoor
end

section
namespace Go.Proofs.YtpmhjnhgpplmnaaGreatDoor
open Go Sx
set_option maxRecDepth 8000

theorem Sx.St.AG {w0 w:World} {X:List Nat} {M:List Res} (h:St w0 X w M) {b a:Option Addr} {n vc m c:Nat} {xs l:List UInt8} (hv:RdB w b n vc xs) (hb0:b≠none) (hr:RdB w a m c l) (hroom:vc<n+m) (hb:n+m≤140737488355000):
   ∃va' vc' w',(Builtin.append_ #[26,26] 26 #[.slice b n vc,.slice a m c]).run Tryz.prog w=.ok (.slice va' (n+m) vc') w'∧St w0 X w' (M++ [.row 5 1 (.slice va' (n+m) vc') (n+m) (bv (xs++l))]):=by
 obtain ⟨inf,hinf,hz,hsz,hby⟩:=(bT).inf
 have hle:=hv.le
 have hle2:=hr.le
 have lv:=hv.bh
 have lr:=hr.bh
 cases b with
 | none=>exact absurd rfl hb0
 | some bd=>
   cases a with
   | none=>have:=hr.nil rfl;omega
   | some ad=>
     have holds:∀j u,(bv xs)[j]?=some u→w.cell? (bd.add j)=some u:=by
       intro j u hu
       obtain ⟨b,o,he,hc⟩:=hv.cells.at_ hu
       simp only [Option.some.injEq] at he
       subst he
       rw [Addr.add_mid]
       exact hc
     have hnews:∀j u,(bv l)[j]?=some u→w.cell? (ad.add j)=some u:=by
       intro j u hu
       obtain ⟨b,o,he,hc⟩:=hr.cells.at_ hu
       simp only [Option.some.injEq] at he
       subst he
       rw [Addr.add_mid]
       exact hc
     have hr2:=run_append_grow (P:=Tryz.prog) w 26 26 5 inf (.int .u8 0) (bT).ht hinf hz bd n vc (bv xs) (by rw [hsz,cL];omega) holds ad m c (bv l) (by rw [hsz,cL];omega) hnews hroom (by omega) (growslice_fits (by omega) (by rw [hby];omega))
     have hge:=grownCap_ge w (n+m) vc 5
     have hm:n+m≤maxLen:=by simp only [maxLen];omega
     have hcm:=grownCap_le_maxLen w (n+m) vc 5 hm
     have hlen:(bv xs++bv l).length=(n+m)*1:=by simp;omega
     refine ⟨_,_,_,hr2,h.add ((Chg.drew [] w).trans (Chg.alloc _ _)) ⟨by simpa using hlen,.inr ⟨w.heap.size,_,_,rfl,Nat.zero_le _,heap_alloc_new w.drew _,hge,hcm,?_,?_⟩⟩ (by simp [Res.fp,Value.ownBlock])⟩
     · simp only [Array.size_append,List.size_toArray,size_zeroCells,cL,(bT).zs]
       omega
     · simp only [Array.toList_append,lV]
       exact List.take_left' hlen

def bG (s:ByteArray):List UInt8:=s.data.toList
theorem GZ (s:ByteArray):s=⟨(bG s).toArray⟩:=by simp [bG]
theorem Am (s:ByteArray):s.size=(bG s).length:=rfl

theorem Kh (s:ByteArray):(s.toList==(ByteArray.mk #[]).toList)=decide ((bG s).length=0):=by
 rw [ByteArray.toList_eq,ByteArray.toList_eq,bG]
 cases s.data.toList<;>rfl

def fN:List UInt8:=[97,109,112,104,111,114,97,49]
def mS (pw:List UInt8):Bool:=decide (1≤pw.length∧pw.length≤1024)
def iD (pw salt m:List UInt8):List UInt8:=if mS pw then fN++salt++dA (fC pw salt) 1 salt m else []
def Cp (pw:List UInt8):Option Int:=if mS pw then none else some 28
def eS (pw file:List UInt8):Option (List UInt8):=
 if mS pw∧file.length=101∧file.take 8=fN then dJ (fC pw ((file.drop 8).take 16)) 1 ((file.drop 8).take 16) (file.drop 24) else none
def fG (pw file:List UInt8):List UInt8:=(eS pw file).getD (List.replicate 32 0)
def eu (pw file:List UInt8):Option Int:=if mS pw then if (eS pw file).isSome then none else some 10 else some 28

@[simp] theorem M5 (pw salt:List UInt8):(fC pw salt).length=96:=we _

theorem me {K:List UInt8} {k:UInt8} {ctx b p:List UInt8} (h:dJ K k ctx b=some p) (hb:b.length≤274877906944):p.length=b.length-45:=by
 unfold dJ at h
 split at h
 · cases h
 · split at h
   · simp only [Option.some.injEq] at h
     have hlb:(bBody b).length=b.length-45:=by rw [bBody,List.length_take,List.length_drop];omega
     rw [←h,(pU _ _ _ (by omega)).2,hlb]
   · cases h

theorem pG (pw file:List UInt8):(fG pw file).length=32:=by
 rw [fG,eS]
 split
 · rename_i h
   cases ho:dJ (fC pw ((file.drop 8).take 16)) 1 ((file.drop 8).take 16) (file.drop 24) with
   | none=>simp
   | some p=>
     have:=me ho (by simp;omega)
     simp at this ⊢
     omega
 · simp

theorem yO (s:ByteArray) (a:Option Addr) (n c:Nat) (salt:List UInt8) (w:World) (hK:cR w) (hr:RdB w a n c salt) (hb:n+(bG s).length≤1000000000000):
   Calls Tryz.prog 226 #[.string s,.slice a n c] w fun e w'=>e=.returned (.agg (bv (fC (bG s) salt)).toArray)∧Chg [] w w':=by
 apply zH
 obtain ⟨g1,w1,r1,h1⟩:=(St.start w).az kyZ
 obtain ⟨g2,c2,w2,r2,hc2,hr2,_⟩:=ug s (bG s) (GZ s) w1
 have h2:=h1.same hc2
 refine ⟨g1,w1,r1,_,_,_,_,r2,(tQ a n c salt _ _ c2 (bG s) _ [107,101,121] w2 rfl (hK.an h2.chg) (h2.rd1 hr) hr2 (by simp;omega)).mono ?_⟩
 rintro e w3 ⟨rfl,c3⟩
 have h3:=h2.same c3
 refine ⟨_,rfl,(nq _ w3 (by simp) (hK.an h3.chg)).mono ?_⟩
 rintro e w4 ⟨rfl,c4⟩
 obtain ⟨w5,r5,h5⟩:=(h3.same c4).stA (i:=0) (v:=bv (fC (bG s) salt)) rfl (kyS _) (by simp) (by simp) (aG _)
 exact ⟨_,rfl,w5,r5,_,h5.bF (i:=0) (l:=bv (fC (bG s) salt)) rfl (kyA _) (kyS _) (by simp),rfl,h5.chg⟩

theorem nu (s:ByteArray) (w:World):Calls Tryz.prog 225 #[.string s] w fun e w'=>e=.returned (.bool (mS (bG s)))∧w'=w:=by
 apply qR
 refine ⟨?_,rfl⟩
 rw [Kh,Am,mS]
 have key:∀n:Nat,(!(decide (n=0))&&decide ((n:Int)≤1024))=decide (1≤n∧n≤1024):=fun n=>by rw [Bool.eq_iff_iff];simp;omega
 rw [key]

theorem IK (s:ByteArray) (salt m:List UInt8) (w:World) (hK:cR w) (hs:salt.length=16) (hm:m.length=32):
   Calls Tryz.prog 141 #[.string s,.agg (bv salt).toArray,.agg (bv m).toArray] w fun e w'=>∃a n c,e=.returned (.tuple #[.slice a n c,bk (Cp (bG s))])∧aS w w' a n c (iD (bG s) salt m):=by
 apply B7
 obtain ⟨g1,w1,r1,h1⟩:=(St.start w).b7 209 (bv salt)
 obtain ⟨g2,w2,r2,h2⟩:=h1.b7 39 (bv m)
 refine ⟨g1,w1,r1,g2,w2,r2,(nu s w2).mono ?_⟩
 rintro e w3 ⟨rfl,rfl⟩
 cases hok:mS (bG s) with
 | false=>
   refine ⟨_,rfl,fun _=>⟨none,0,0,by rw [Cp,hok];rfl,?_⟩,fun h=>by simp at h⟩
   rw [iD,hok]
   exact ⟨h2.chg,rfl,World.ownsRow_nil _ _ _ _⟩
 | true=>
   have hlen:1≤(bG s).length∧(bG s).length≤1024:=by simpa [mS] using hok
   refine ⟨_,rfl,fun h=>by simp at h,fun _=>?_⟩
   obtain ⟨g3,w4,w5,r4,r5,c5,q5⟩:=pQ fN (by decide) w3
   have h5:=h2.same c5
   obtain ⟨va,vc,w6,r6,h6⟩:=h5.AG q5 (by simp) (h5.rdA (i:=0) (n:=16) rfl (by simp [hs])) (by decide) (by decide)
   have h6d:=h6.drew
   obtain ⟨K,hKK⟩:∃K,fC (bG s) salt=K:=⟨_,rfl⟩
   have hk:K.length=96:=by rw [←hKK];simp
   have qs:∀w',Chg [] w6.drew w'→RdB w' (some ⟨g1,0,none⟩) 16 16 salt:=fun w' h=>(h6d.same h).rdA (i:=0) rfl (by simp [hs])
   have qm:∀w',Chg [] w6.drew w'→RdB w' (some ⟨g2,0,none⟩) 32 32 m:=fun w' h=>(h6d.same h).rdA (i:=1) rfl (by simp [hm])
   have hu:=yO s _ 16 16 salt w6.drew (hK.an h6d.chg) (qs _ (Chg.refl _ _)) (by omega)
   rw [hKK] at hu
   refine ⟨_,_,_,_,r4,_,_,_,_,r5,by omega,by omega,_,_,_,_,r6,by omega,by omega,by omega,by omega,by omega,by omega,hu.mono ?_⟩
   rintro e w7 ⟨rfl,c7⟩
   have h7:=h6d.same c7
   refine ⟨_,rfl,(pL K 1 _ 16 16 salt _ 32 32 m w7 hk (hK.an h7.chg) (qs _ c7) (qm _ c7) (by omega)).mono ?_⟩
   rintro e w8 ⟨a8,n8,c8,rfl,hf8⟩
   have h8:St w [] w8 [.arr g1 209 (bv salt),.arr g2 39 (bv m),.row 5 1 (.slice va (8+16) vc) (8+16) (bv (fN++salt)),.row 5 1 (.slice a8 n8 c8) n8 (bv (dA K 1 salt m))]:=hf8.add h7
   have e8:=hf8.2.1
   have hl8:=fW K 1 salt m (by omega)
   obtain ⟨vb,vd,w9,r9,h9⟩:=h8.bL (i:=2) rfl (h8.rd (i:=3) (xs:=bv (dA K 1 salt m)) rfl) (by omega)
   refine ⟨_,_,_,rfl,_,_,_,_,r9,_,_,_,by rw [Cp,hok];rfl,?_⟩
   rw [iD,if_pos hok,hKK]
   exact h9.iW (i:=2) rfl

theorem Hi (w:World):(Instr.build 39 #[]).run Tryz.prog w=.ok (.agg (bv (List.replicate 32 0)).toArray) w:=by
 have:=dx (P:=Tryz.prog) (w:=w) (T:=39) (dP w) Tryz.underlying39 (sB1 w) [] (by simp) (by simp)
 simpa using this

theorem Il {w:World} {b o c:Nat} {l:List UInt8} (h:RdB w (some ⟨b,o,none⟩) 32 c l):(Instr.loadAt 39 (.pointer (some ⟨b,o,none⟩))).run Tryz.prog w=.ok (.agg (bv l).toArray) w:=by
 have hl:=h.bh
 rcases h.cells with h0 | ⟨b',o',e,hr⟩
 · have:(bv l).length=0:=by rw [h0];rfl
   simp at this;subst this;simp at hl
 · simp only [Option.some.injEq,Addr.mk.injEq,and_true] at e
   obtain ⟨rfl,rfl⟩:=e
   have:=cA (P:=Tryz.prog) hr
   rw [cL,hl] at this
   simp [Instr.loadAt,Instr.sureAddr,loadVar,jv,cz,this]

theorem bytes_beq (l m:List UInt8):((ByteArray.mk l.toArray).toList==(ByteArray.mk m.toArray).toList)=decide (l=m):=by
 rw [ByteArray.toList_eq,ByteArray.toList_eq]
 by_cases h:l=m<;>simp [h]

theorem Df (s:ByteArray) (a:Option Addr) (n c:Nat) (file:List UInt8) (w:World) (hK:cR w) (hr:RdB w a n c file):
   Calls Tryz.prog 176 #[.string s,.slice a n c] w fun e w'=>e=.returned (.tuple #[.agg (bv (fG (bG s) file)).toArray,bk (eu (bG s) file)])∧Chg [] w w':=by
 have hl:=hr.bh
 have hle:=hr.le
 apply y4
 obtain ⟨m,hI⟩:=eI
 obtain ⟨g1,w1,r1,h1⟩:=(St.start w).az dP
 have fin:∀w' (D:List UInt8),D.length=32→Chg [] w1 w'→∃w3,(Instr.storeAt 39 (.pointer (some ⟨g1,0,none⟩)) (.agg (bv D).toArray)).run Tryz.prog w'=.ok () w3∧(loadVar 39 ⟨g1,0,none⟩).run Tryz.prog w3=.ok (.agg (bv D).toArray) w3∧Chg [] w w3:=fun w' D hD hc=>by
   obtain ⟨w3,r3,h3⟩:=(h1.same hc).stA (i:=0) (v:=bv D) rfl (cz _) (by simp) (by simp [hD]) (aG _)
   exact ⟨w3,r3,h3.bF (i:=0) (l:=bv D) rfl (jv _) (cz _) (by simp [hD]),h3.chg⟩
 refine ⟨g1,w1,r1,(nu s w1).mono ?_⟩
 rintro e w2 ⟨rfl,rfl⟩
 have hz:=Chg.refl [] w2
 cases hok:mS (bG s) with
 | false=>
   obtain ⟨w3,r3,l3,c3⟩:=fin w2 (List.replicate 32 0) (by simp) hz
   refine ⟨_,rfl,fun _=>⟨_,Hi _,w3,r3,_,l3,?_,c3⟩,fun h=>by simp at h⟩
   rw [fG,eS,if_neg (by simp [hok]),eu,hok]
   rfl
 | true=>
   have hlen:1≤(bG s).length∧(bG s).length≤1024:=by simpa [mS] using hok
   refine ⟨_,rfl,fun h=>by simp at h,fun _=>⟨fun x w'=>x=decide (¬(file.length=101∧file.take 8=fN))∧w'=w2,⟨fun h=>?_,fun h=>?_⟩,?_⟩⟩
   · have:¬file.length=101:=by simp at h;omega
     exact ⟨by simp [this],rfl⟩
   · have h101:file.length=101:=by simp at h;omega
     have q8:=ir (k:=8) (h1.rd1 hr) (by omega)
     refine ⟨by omega,by omega,_,toStr bS bE sS q8.cells q8.bh,?_,rfl⟩
     have:=bytes_beq (file.take 8) fN
     rw [show (ByteArray.mk #[97,109,112,104,111,114,97,49])=ByteArray.mk fN.toArray from rfl,this]
     simp [h101]
   rintro x w4 ⟨rfl,rfl⟩
   refine ⟨fun h=>?_,fun h=>?_⟩
   · have h':¬(file.length=101∧file.take 8=fN):=of_decide_eq_true h
     obtain ⟨w3,r3,l3,c3⟩:=fin w4 (List.replicate 32 0) (by simp) hz
     refine ⟨_,Hi _,w3,r3,_,l3,?_,c3⟩
     have ho:eS (bG s) file=none:=by rw [eS,if_neg (fun q=>h' q.2)]
     rw [fG,eu,ho,hok]
     rfl
   have h':file.length=101∧file.take 8=fN:=Decidable.not_not.1 (of_decide_eq_false h)
   clear h
   have hn:n=101:=by omega
   subst hn
   obtain ⟨salt,hsalt⟩:∃x,(file.drop 8).take 16=x:=⟨_,rfl⟩
   obtain ⟨fD,hblob⟩:∃x,file.drop 24=x:=⟨_,rfl⟩
   have ho:eS (bG s) file=dJ (fC (bG s) salt) 1 salt fD:=by rw [eS,if_pos ⟨hok,h'⟩,hsalt,hblob]
   have hw:=Chg.drew [] w4
   have q:=(h1.same hw).rd1 hr
   refine ⟨by omega,by omega,by omega,fun t27 hs27=>⟨by omega,by omega,by omega,fun t29 hs29=>?_⟩⟩
   have q1:RdB w4.drew t27 16 (c-8) salt:=by
     have:=q.sub hs27 (hh:=24) (by omega) (by omega) (by omega) (Nat.le_refl _)
     have e1:((bv file).drop (8*1)).take ((24-8)*1)=bv salt:=by rw [←hsalt,fV,dc]
     rw [e1] at this
     exact this
   have q2:RdB w4.drew t29 (101-24) (c-24) fD:=by
     have:=q.sub hs29 (hh:=101) (by omega) (by omega) (by omega) (Nat.le_refl _)
     have e1:((bv file).drop (24*1)).take ((101-24)*1)=bv fD:=by rw [←hblob,dc,List.take_of_length_le (by simp;omega)]
     rw [e1] at this
     exact this
   obtain ⟨K,hKK⟩:∃K,fC (bG s) salt=K:=⟨_,rfl⟩
   have hk:K.length=96:=by rw [←hKK];simp
   have hu:=yO s _ 16 _ salt w4.drew (hK.an (h1.chg.trans hw)) q1 (by omega)
   rw [hKK] at hu ho
   refine hu.mono ?_
   rintro e w5 ⟨rfl,c5⟩
   have d5:=hw.trans c5
   refine ⟨_,rfl,(AN K 1 t27 16 (c-8) salt t29 (101-24) (c-24) fD w5 hk (hK.an (h1.chg.trans d5)) (q1.an c5) (q2.an c5) (by omega)).mono ?_⟩
   rintro e w6 ⟨a6,n6,c6,rfl,hf6⟩
   have d6:=d5.trans hf6.1
   refine ⟨_,_,_,_,rfl,_,au hI _ _ _,fun h=>?_,fun h=>?_⟩
   · cases hop:dJ K 1 salt fD with
     | some p=>rw [jD,hop] at h;simp at h
     | none=>
       obtain ⟨w3,r3,l3,c3⟩:=fin w6 (List.replicate 32 0) (by simp) d6
       refine ⟨_,Hi _,w3,r3,_,l3,?_,c3⟩
       rw [fG,eu,ho,hok,jD,hop]
       rfl
   · cases hop:dJ K 1 salt fD with
     | none=>rw [jD,hop] at h;simp at h
     | some p=>
       rw [hop] at hf6
       have hbl:=q2.bh
       have hpl:=me hop (by omega)
       have hp6:n6=32:=by have:=hf6.2.1;simp at this;omega
       subst hp6
       have hrd:=hf6.rdB
       have ha6:∃b o,a6=some ⟨b,o,none⟩:=by
         rcases hrd.cells with h0 | ⟨b,o,e,_⟩
         · have h00:(bv ((some p).getD [])).length=0:=by rw [h0];rfl
           rw [cL,Option.getD_some] at h00
           omega
         · exact ⟨b,o,e⟩
       obtain ⟨b,o,rfl⟩:=ha6
       obtain ⟨w3,r3,l3,c3⟩:=fin w6 p (by omega) d6
       refine ⟨_,run_arrayAt w6 39 _ 32 _ 32 _ Tryz.underlying39 (Nat.le_refl _),_,Il hrd,w3,r3,_,l3,?_,c3⟩
       rw [fG,eu,ho,hok,hop]
       rfl

end Go.Proofs.YtpmhjnhgpplmnaaGreatDoor
end

section
namespace Go.Proofs.YtpmhjnhgpplmnaaGreatDoor
open Go Go.Proofs.YtpmhjnhgpplmnaaGreatDoor.Sx
set_option maxRecDepth 100000
variable (w:World) (R:Ending→World→Prop)
theorem tj (a:Array Value) (b:Int) (c:Option Addr) (d e:Nat) (h:Bxz 41 (.agg a) w fun a e=>Cbz 221 #[.int .i64 b] e fun e f=>Ifz (!e) (R (.returned (.tuple #[.pointer none,.iface 65 (.int .i64 28)])) f) (∃(e:Int→World→Prop) (g:Int→World→Nat),e 0 f∧∀f h,e f h→Ifz (decide (f<(d:Int))) (∃a b,c=some ⟨a,b,none⟩∧0≤f∧f<(d:Int)∧Laz 303 a (b+Int.toNat f*33) h fun a=>Alz 303 h fun b c=>Stz 303 b 0 (.agg a) c fun a=>Llz 26 b 32 a fun b c d=>Ifz (decide ((c:Int)>67108832)) (R (.returned (.tuple #[.pointer none,.iface 65 (.int .i64 7)])) a) (e (IntKind.wrap .i64 (f+1)) a∧g (IntKind.wrap .i64 (f+1)) a<g f h)) (Calls Tryz.prog 336 #[.int .i64 b] h (fun b e=>∃f g,b=.returned (.pointer (some ⟨f,g,none⟩))∧∃(b:Int→World→Prop) (h:Int→World→Nat),b 0 e∧∀e i,b e i→Ifz (decide (e<(d:Int))) (∃a j,c=some ⟨a,j,none⟩∧0≤e∧e<(d:Int)∧Laz 303 a (j+Int.toNat e*33) i fun a=>Alz 303 i fun c d=>Stz 303 c 0 (.agg a) d fun a=>Laz 303 c 0 a fun c=>Calls Tryz.prog 337 #[.pointer (some ⟨f,g,none⟩),.agg c] a fun a c=>a=.returned (.tuple #[])∧b (IntKind.wrap .i64 (e+1)) c∧h (IntKind.wrap .i64 (e+1)) c<h e i) (Laz 41 a 0 i (fun a=>Calls Tryz.prog 338 #[.pointer (some ⟨f,g,none⟩),.agg a] i fun a b=>a=.returned (.tuple #[])∧R (.returned (.tuple #[.pointer (some ⟨f,g,none⟩),.nilIface])) b)))))):Calls Tryz.prog 290 #[.agg a,.int .i64 b,.slice c d e] w R:=aa 0x3d004831c2b0048311067838c8200321d011491184911c2983d2016141c2b003d30d731c067838c8200321d0112b11a2b119263983d2003d3014141c20d7c Tryz.func290 (by kernel_rfl) h
theorem zQ (a:Int) (h:Buz 388 #[(1,.int .i64 a)] w fun b=>Bxz 388 (.agg b) w fun b c=>∃d:World→Prop,(Bsz 26 8 #[(0,.int .u8 97),(1,.int .u8 109),(2,.int .u8 112),(3,.int .u8 104),(4,.int .u8 112),(5,.int .u8 97),(6,.int .u8 99),(7,.int .u8 107)] c.drew (fun c e f g=>Cvz 26 26 (.slice c e f) g (fun c e f g=>Clz 196 #[.int .i64 a] g fun a g h i=>Apz 26 (.slice c e f) (.slice a g h) i fun a c e f=>Calls Tryz.prog 367 #[.pointer (some ⟨b,0,none⟩),.slice a c e] f fun a b=>a=.returned (.tuple #[])∧d b)∧Clz 196 #[.int .i64 a] g fun a g h i=>Cvz 26 26 (.slice c e f) i fun c e f i=>Apz 26 (.slice c e f) (.slice a g h) i fun a c e f=>Calls Tryz.prog 367 #[.pointer (some ⟨b,0,none⟩),.slice a c e] f fun a b=>a=.returned (.tuple #[])∧d b)∧Clz 196 #[.int .i64 a] c.drew fun a c e f=>Bsz 26 8 #[(0,.int .u8 97),(1,.int .u8 109),(2,.int .u8 112),(3,.int .u8 104),(4,.int .u8 112),(5,.int .u8 97),(6,.int .u8 99),(7,.int .u8 107)] f fun f g h i=>Cvz 26 26 (.slice f g h) i fun f g h i=>Apz 26 (.slice f g h) (.slice a c e) i fun a c e f=>Calls Tryz.prog 367 #[.pointer (some ⟨b,0,none⟩),.slice a c e] f fun a b=>a=.returned (.tuple #[])∧d b)∧∀a,d a→R (.returned (.pointer (some ⟨b,0,none⟩))) a):Calls Tryz.prog 336 #[.int .i64 a] w R:=aa 0x2d19010081847274724472347186008184727472447186008184727471864724672365210424001971a2017831c1d Tryz.func336 (by kernel_rfl) h
theorem rq (a b:Nat) (c:Option Addr) (d e:Nat) (h:Llz 24 a b w fun f g h=>Bsz 24 1 #[(0,.slice c d e)] w fun c e i j=>Apz 24 (.slice f g h) (.slice c e i) j fun c e f g=>Stz 24 a b (.slice c e f) g fun c=>Liz 3 a (b+1) c fun e=>∃f,(Instr.storeAt 3 (.pointer (some ⟨a,b+1,none⟩)) (.int .i64 (IntKind.wrap .i64 (e+(d:Int))))).run Tryz.prog c=.ok () f∧R (.returned (.tuple #[])) f):Calls Tryz.prog 367 #[.pointer (some ⟨a,b,none⟩),.slice c d e] w R:=aa 0x65203e106d757517342c Tryz.func367 (by kernel_rfl) h
theorem sD (a b:Nat) (c:Array Value) (h:Bxz 303 (.agg c) w fun c d=>∃e:World→Prop,e d.drew∧0≤(32:Int)∧(32:Int)≤32∧∃f g h,(∀a,e a→LdQ 26 c 32 (.slice f g h) a)∧Bsz 24 2 #[(0,.slice (some ⟨c,0,none⟩) 32 32),(1,.slice f g h)] d.drew fun d f g h=>∃i:World→Prop,(∀a,i a→e a)∧i h∧Clz 368 #[.int .u8 2,.slice d f g] h fun d e f g=>∃h:World→Prop,(∀a,h a→i a)∧h g∧∃h:World→Prop,h g.drew∧∃i,(∀c,h c→LdQ 3 a (b+1) (.int .i64 i) c)∧∃j k l,(∀a,h a→LdQ 26 c 32 (.slice j k l) a)∧Calls Tryz.prog 367 #[.pointer (some ⟨a,b,none⟩),.slice d e f] g.drew fun d f=>d=.returned (.tuple #[])∧∃d:World→Prop,d f.drew∧∃g h j,(∀c,d c→LdQ 48 a (b+3) (.slice g h j) c)∧∃l,(∀a,d a→LdQ 87 c 0 (.agg l) a)∧∃m,(∀c,d c→LdQ 3 a (b+2) (.int .i64 m) c)∧∃n o p,(∀a,d a→LdQ 26 c 32 (.slice n o p) a)∧∃c,(∀a,d a→(Instr.build 100 #[(0,.agg l),(1,.int .i64 m),(2,.int .i64 (IntKind.wrap .i64 (IntKind.wrap .i64 (i+(e:Int))- (k:Int)))),(3,.int .i64 (o:Int))]).run Tryz.prog a=.ok (.agg c) a)∧Bsz 48 1 #[(0,.agg c)] f.drew fun c e f i=>∃k:World→Prop,(∀a,k a→d a)∧k i∧Apz 48 (.slice g h j) (.slice c e f) i fun c d e f=>∃g:World→Prop,(∀a,g a→k a)∧g f∧Stz 48 a (b+3) (.slice c d e) f fun a=>R (.returned (.tuple #[])) a):Calls Tryz.prog 337 #[.pointer (some ⟨a,b,none⟩),.agg c] w R:=aa 0x12c1042c42b2a22722947228481f301e171d301a38637431c1b19187532101a2500442c001c1b1a327193071043186532107252000617185472447330216110015207c Tryz.func337 (by kernel_rfl) h
theorem sY (a b:Nat) (c:Array Value) (h:Bxz 41 (.agg c) w fun c d=>∃e:World→Prop,e d.drew∧∃f,(∀a,e a→LdQ 41 c 0 (.agg f) a)∧∃c,(∀d,e d→LdQ 3 a (b+2) (.int .i64 c) d)∧∃g h i,(∀c,e c→LdQ 48 a (b+3) (.slice g h i) c)∧Clz 196 #[.int .i64 c] d.drew fun c d j k=>∃l:World→Prop,(∀a,l a→e a)∧l k∧Clz 260 #[.slice g h i] k fun e g h i=>∃k:World→Prop,(∀a,k a→l a)∧k i∧Clz 101 #[.agg f,.int .u8 3,.slice c d j,.slice e g h] i fun c d e f=>∃g:World→Prop,(∀a,g a→k a)∧g f∧Bsz 24 1 #[(0,.slice c d e)] f fun c d e f=>∃h:World→Prop,(∀a,h a→g a)∧h f∧Clz 368 #[.int .u8 3,.slice c d e] f fun c d e f=>∃g:World→Prop,(∀a,g a→h a)∧g f∧Calls Tryz.prog 367 #[.pointer (some ⟨a,b,none⟩),.slice c d e] f fun a b=>a=.returned (.tuple #[])∧∃a:World→Prop,(∀b,a b→g b)∧a b∧R (.returned (.tuple #[])) b):Calls Tryz.prog 338 #[.pointer (some ⟨a,b,none⟩),.agg c] w R:=aa 0x8294718284721f47181e47181d471818471c30738331b1a19654210192507c Tryz.func338 (by kernel_rfl) h
theorem sG (a:Option Addr) (b c:Nat) (h:∃(c:Option Addr→Nat→Nat→Int→World→Prop) (d:Option Addr→Nat→Nat→Int→World→Nat),c none 0 0 0 w∧∀e f g h i,c e f g h i→Ifz (decide (h<(b:Int))) (∃j k,a=some ⟨j,k,none⟩∧0≤h∧h<(b:Int)∧Laz 100 j (k+Int.toNat h*35) i fun a=>Alz 100 i fun b j=>Stz 100 b 0 (.agg a) j fun a=>0≤(32:Int)∧(32:Int)≤32∧Apz 26 (.slice e f g) (.slice (some ⟨b,0,none⟩) 32 32) a fun a j k l=>Liz 3 b 33 l fun m=>Clz 196 #[.int .i64 m] l fun l m n o=>Apz 26 (.slice a j k) (.slice l m n) o fun a j k l=>Liz 3 b 34 l fun b=>Clz 196 #[.int .i64 b] l fun b l m n=>Apz 26 (.slice a j k) (.slice b l m) n fun a b j k=>c a b j (IntKind.wrap .i64 (h+1)) k∧d a b j (IntKind.wrap .i64 (h+1)) k<d e f g h i) (R (.returned (.slice e f g)) i)):Calls Tryz.prog 260 #[.slice a b c] w R:=aa 0x2d2b017571403d1017571403dc01759dc067838c8200321d0721181322b1815133983d21d1d Tryz.func260 (by kernel_rfl) h
theorem BE (a:Int) (h:R (.returned (.bool (decide (a≥(0:Int))&&decide (a≤(1099511627776:Int))))) w):Calls Tryz.prog 221 #[.int .i64 a] w R:=aa 0x12bec1d Tryz.func221 (by kernel_rfl) h
theorem B0 (a:Int) (h:Cbz 221 #[.int .i64 a] w fun b c=>Ifz (!b) (R (.returned (.string (ByteArray.mk #[]))) c) (Csz 95 #[.int .i64 a] c (fun a b=>∃c,(dK .add 9 (.const (.string (ByteArray.mk #[112]))) (.tmp 7) (.string (ByteArray.mk #[112])) (.string a)).run Tryz.prog b=.ok (.string c) b∧R (.returned (.string c)) b))):Calls Tryz.prog 132 #[.int .i64 a] w R:=aa 0x1535141c001d3014141c21d Tryz.func132 (by kernel_rfl) h
theorem tK (a b:Nat) (c:Array Value) (d:Int) (e:Option Addr) (f g:Nat) (h:Bxz 41 (.agg c) w fun c h=>Alz 91 h fun h i=>Laz 41 c 0 i fun c=>C2z 290 #[.agg c,.int .i64 d,.slice e f g] i fun c e g=>Nez .neq 58 (.tmp 26) e g fun i=>Ifz i (Buz 91 #[] g (fun a=>Stz 91 h 0 (.agg a) g fun a=>∃b,(loadVar 91 ⟨h,0,none⟩).run Tryz.prog a=.ok b a∧R (.returned (.tuple #[.slice none 0 0,b,e])) a)) (Csz 132 #[.int .i64 d] g (fun e g=>Cvv 144 #[.pointer (some ⟨a,b,none⟩),.string e] g fun g i=>Nez .neq 58 (.tmp 35) g i fun j=>Ifz j (Buz 91 #[] i (fun a=>Stz 91 h 0 (.agg a) i fun a=>∃b,(loadVar 91 ⟨h,0,none⟩).run Tryz.prog a=.ok b a∧R (.returned (.tuple #[.slice none 0 0,b,g])) a)) (∃g j,c=.pointer (some ⟨g,j,none⟩)∧Llz 24 g j i fun g j k=>∃(k:Int→World→Prop) (l:Int→World→Nat),k 0 i∧∀i m,k i m→Ifz (decide (i<(j:Int))) (∃c d,g=some ⟨c,d,none⟩∧0≤i∧i<(j:Int)∧Llz 26 c (d+Int.toNat i*1) m fun c d f=>Bsz 24 1 #[(0,.slice c d f)] m fun c d f g=>Cvv 145 #[.pointer (some ⟨a,b,none⟩),.string e,.slice c d f] g fun a b=>Nez .neq 58 (.tmp 54) a b fun c=>Ifz c (Buz 91 #[] b (fun c=>Stz 91 h 0 (.agg c) b fun b=>∃c,(loadVar 91 ⟨h,0,none⟩).run Tryz.prog b=.ok c b∧R (.returned (.tuple #[.slice none 0 0,c,a])) b)) (k (IntKind.wrap .i64 (i+1)) b∧l (IntKind.wrap .i64 (i+1)) b<l i m)) (Cvv 146 #[.pointer (some ⟨a,b,none⟩),.string e] m (fun a b=>Nez .neq 58 (.tmp 62) a b fun e=>Ifz e (Buz 91 #[] b (fun c=>Stz 91 h 0 (.agg c) b fun b=>∃c,(loadVar 91 ⟨h,0,none⟩).run Tryz.prog b=.ok c b∧R (.returned (.tuple #[.slice none 0 0,c,a])) b)) (∃a:World→Prop,a b.drew∧∃e g,c=.pointer (some ⟨e,g,none⟩)∧∃i j,c=.pointer (some ⟨i,j,none⟩)∧∃c k l,(∀b,a b→LdQ 48 e (g+3) (.slice c k l) b)∧∃e,(∀b,a b→LdQ 3 i (j+1) (.int .i64 e) b)∧∃g,(∀b,a b→(Instr.build 91 #[(0,.int .i64 d),(1,.int .i64 e),(2,.int .i64 (f:Int))]).run Tryz.prog b=.ok (.agg g) b)∧Stz 91 h 0 (.agg g) b.drew fun a=>∃b,(loadVar 91 ⟨h,0,none⟩).run Tryz.prog a=.ok b a∧R (.returned (.tuple #[.slice c k l,b,.nilIface])) a))))))):Calls Tryz.prog 220 #[.pointer (some ⟨a,b,none⟩),.agg c,.int .i64 d,.slice e f g] w R:=aa 0x21e1001f141e481c3019301d17331b1a18742e6154232e110015200016d83c30431c01914dc22b00016d83c30431c0191475ec01738c8200321d0115d11e5d22811a1184980d73dea1c200016d83c30431c01914dc2015141c00016d83c30431c20529924d83c01717c Tryz.func220 (by kernel_rfl) h
end Go.Proofs.YtpmhjnhgpplmnaaGreatDoor
end

section
namespace Go.Proofs.YtpmhjnhgpplmnaaGreatDoor
open Go Sx
set_option maxRecDepth 8000

structure PcD where
 a:Option Addr
 c:Nat
 l:List UInt8
def PcD.v (p:PcD):Value:=.slice p.a p.l.length p.c
def PcD.row (p:PcD):Res:=.row 5 1 (.slice p.a p.l.length p.c) p.l.length (bv p.l)
structure FP where
 la:Option Addr
 lc:Nat
 ps:List PcD
 ra:Option Addr
 rc:Nat
 rs:List bq
def lU (num:Int) (f:FP):List Value:=[.slice f.la f.ps.length f.lc,.int .i64 (((f.ps.map PcD.l).flatten.length:Nat):Int),.int .i64 num,.slice f.ra f.rs.length f.rc]
def lz (g:Nat) (num:Int) (f:FP):List Res:=[.arr g 388 (lU num f),.row 26 1 (.slice f.la f.ps.length f.lc) f.ps.length (f.ps.map PcD.v),.row 100 35 (.slice f.ra f.rs.length f.rc) f.rs.length (f.rs.flatMap aC)]
def bZ (w0:World) (X:List Nat) (w:World) (g:Nat) (num:Int) (ps:List (List UInt8)) (rs:List bq) (N:List Res):Prop:=∃f:FP,f.ps.map PcD.l=ps∧f.rs=rs∧St w0 X w (lz g num f++(f.ps.map PcD.row++N))

theorem Og (w:World):(isAgg 24).run Tryz.prog w=.ok false w:=Tryz.isAgg24 w
theorem OY (w:World):(sizeOf 24).run Tryz.prog w=.ok 1 w:=Tryz.sizeOf24 w
theorem OI (w:World):(sizeOf 3).run Tryz.prog w=.ok 1 w:=Tryz.sizeOf3 w
theorem M3 (w:World):(isAgg 48).run Tryz.prog w=.ok false w:=Tryz.isAgg48 w
theorem OD (w:World):(sizeOf 48).run Tryz.prog w=.ok 1 w:=Tryz.sizeOf48 w
theorem MT (w:World):(isAgg 26).run Tryz.prog w=.ok false w:=Tryz.isAgg26 w

section
variable {w0 w w':World} {X:List Nat} {N N' T:List Res} {g:Nat} {num:Int} {ps:List (List UInt8)} {rs:List bq}

theorem bZ.same (h:bZ w0 X w g num ps rs N) (hc:Chg [] w w'):bZ w0 X w' g num ps rs N:=by obtain ⟨f,h1,h2,hS⟩:=h;exact ⟨f,h1,h2,hS.same hc⟩
theorem bZ.chg (h:bZ w0 X w g num ps rs N):Chg X w0 w:=by obtain ⟨f,h1,h2,hS⟩:=h;exact hS.chg
theorem bZ.rest (h:bZ w0 X w g num ps rs N):St w0 X w N:=by
 obtain ⟨f,h1,h2,hS⟩:=h
 exact hS.sub ((List.sublist_append_right _ _).trans (List.sublist_append_right _ _))
theorem bZ.dh (h:bZ w0 X w g num ps rs N) (h':St w [] w' T):bZ w0 X w' g num ps rs (N++T):=by
 obtain ⟨f,h1,h2,hS⟩:=h
 refine ⟨f,h1,h2,?_⟩
 have:=Sx.St.cC (N:=[]) (by rw [List.append_nil];exact hS) h'
 rw [List.append_assoc,List.append_assoc] at this
 exact this
theorem bZ.KS (h:bZ w0 X w g num ps rs N) (hn:N'.Sublist N):bZ w0 X w g num ps rs N':=by
 obtain ⟨f,h1,h2,hS⟩:=h
 exact ⟨f,h1,h2,hS.sub (List.Sublist.append_left (List.Sublist.append_left hn _) _)⟩

theorem v7 {f:FP} {a:Option Addr} {c:Nat} {l:List UInt8} (hS:St w0 X w (lz g num f++(f.ps.map PcD.row++(N++ [.row 5 1 (.slice a l.length c) l.length (bv l)])))) (hp:f.ps.length<1000000) (hb:(f.ps.map PcD.l).flatten.length+l.length≤4611686018427387904):
   Calls Tryz.prog 367 #[.pointer (some ⟨g,0,none⟩),.slice a l.length c] w fun e w'=>e=.returned (.tuple #[])∧∃la lc,St w0 X w' (lz g num { f with la:=la,lc:=lc,ps:=f.ps++ [⟨a,c,l⟩] } ++((f.ps++ [(⟨a,c,l⟩:PcD)]).map PcD.row++N)):=by
 apply rq
 obtain ⟨g2,w2,va,vc,w3,r2,r3,h3,h2,c2⟩:=hS.Jk (i:=1) (ty:=24) bbT rfl (.slice a l.length c) rfl (by omega) (by simp only [maxLen];omega)
 obtain ⟨w4,r4,h4⟩:=h3.stL (i:=0) (o:=0) (off:=0) (T:=24) (v:=.slice va (f.ps.length+1) vc) rfl (OY _) rfl (by simp [lU]) rfl
 have e1:IntKind.wrap .i64 ((((f.ps.map PcD.l).flatten.length:Nat):Int)+((l.length:Nat):Int))=((((f.ps++ [(⟨a,c,l⟩:PcD)]).map PcD.l).flatten.length:Nat):Int):=by
   rw [wrap_i64 (by omega) (by omega)];simp
 obtain ⟨w5,r5,h5⟩:=h4.stL (i:=0) (o:=1) (off:=1) (T:=3) (v:=.int .i64 ((((f.ps++ [(⟨a,c,l⟩:PcD)]).map PcD.l).flatten.length:Nat):Int)) rfl (OI _) rfl (by simp [lU]) rfl
 refine ⟨_,_,_,hS.ldL (i:=0) (o:=0) rfl (Og _) rfl rfl,_,_,_,w2,r2,_,_,_,w3,r3,w4,r4,_,h4.ldL (i:=0) (o:=1) rfl (inA _) rfl rfl,w5,by rw [e1];exact r5,rfl,va,vc,?_⟩
 have h6:St w0 X w5 ([.arr g 388 [.slice va (f.ps.length+1) vc,.int .i64 ((((f.ps++ [(⟨a,c,l⟩:PcD)]).map PcD.l).flatten.length:Nat):Int),.int .i64 num,.slice f.ra f.rs.length f.rc],.row 26 1 (.slice va (f.ps.length+1) vc) (f.ps.length+1) (f.ps.map PcD.v++ [.slice a l.length c]),.row 100 35 (.slice f.ra f.rs.length f.rc) f.rs.length (f.rs.flatMap aC)]++(f.ps.map PcD.row++(N++ [.row 5 1 (.slice a l.length c) l.length (bv l)]))):=h5
 have e2:lz g num { f with la:=va,lc:=vc,ps:=f.ps++ [⟨a,c,l⟩] } =[.arr g 388 [.slice va (f.ps.length+1) vc,.int .i64 ((((f.ps++ [(⟨a,c,l⟩:PcD)]).map PcD.l).flatten.length:Nat):Int),.int .i64 num,.slice f.ra f.rs.length f.rc],.row 26 1 (.slice va (f.ps.length+1) vc) (f.ps.length+1) (f.ps.map PcD.v++ [.slice a l.length c]),.row 100 35 (.slice f.ra f.rs.length f.rc) f.rs.length (f.rs.flatMap aC)]:=by
   simp [lz,lU,PcD.v]
 rw [e2]
 refine h6.perm (List.Perm.append_left _ ?_)
 show (f.ps.map PcD.row++(N++ [PcD.row ⟨a,c,l⟩])).Perm ((f.ps++ [(⟨a,c,l⟩:PcD)]).map PcD.row++N)
 rw [List.map_append,List.append_assoc]
 exact List.Perm.append_left _ List.perm_append_comm

theorem xL {a:Option Addr} {c:Nat} {l:List UInt8} (h:bZ w0 X w g num ps rs (N++ [.row 5 1 (.slice a l.length c) l.length (bv l)])) (hp:ps.length<1000000) (hb:ps.flatten.length+l.length≤4611686018427387904):
   Calls Tryz.prog 367 #[.pointer (some ⟨g,0,none⟩),.slice a l.length c] w fun e w'=>e=.returned (.tuple #[])∧bZ w0 X w' g num (ps++ [l]) rs N:=by
 obtain ⟨f,rfl,rfl,hS⟩:=h
 refine (v7 hS (by simpa using hp) hb).mono ?_
 rintro e w' ⟨rfl,la,lc,h'⟩
 exact ⟨rfl, { f with la:=la,lc:=lc,ps:=f.ps++ [⟨a,c,l⟩] },by simp,rfl,h'⟩

theorem IY:Tryz.prog.built 388=fun parts=>Instr.fill (fun i=>(#[(0,2),(2,1),(3,1)]:Array (Nat×Nat))[i]?) #[.slice none 0 0,.int .i64 0,.int .i64 0,.slice none 0 0] parts:=by kernel_rfl
theorem IB (num:Int) (w:World):(Instr.build 388 #[(1,.int .i64 num)]).run Tryz.prog w=.ok (.agg #[.slice none 0 0,.int .i64 0,.int .i64 num,.slice none 0 0]) w:=by
 apply run_build
 rw [IY]
 show Instr.fill _ _ [(1,_)]=_
 rw [aA (off:=2) (sz:=1) rfl rfl (by simp)]
 rfl

theorem iY (x:Int) (w:World):Calls Tryz.prog 196 #[.int .i64 x] w fun e w'=>∃a c,e=.returned (.slice a 8 c)∧aS w w' a 8 c (fA (n64 x)):=by
 refine (Aw x w).mono ?_
 rintro e w' ⟨a,n,c,rfl,hf⟩
 have hn:n=8:=by rw [←hf.2.1];exact sN _
 subst hn
 exact ⟨a,c,rfl,hf⟩

theorem Br (num:Int) (w:World):Calls Tryz.prog 336 #[.int .i64 num] w fun e w'=>∃g,e=.returned (.pointer (some ⟨g,0,none⟩))∧bZ w [] w' g num [iO num] [] []:=by
 apply zQ
 obtain ⟨g,w1,r1,h1⟩:=(St.start w).b7 (P:=Tryz.prog) 388 [.slice none 0 0,.int .i64 0,.int .i64 num,.slice none 0 0]
 have h1f:bZ w [] w1 g num [] [] []:=⟨⟨none,0,[],none,0,[]⟩,rfl,rfl,(h1.b8 26 1).b8 100 35⟩
 refine ⟨_,IB num w,g,w1,r1,fun w'=>bZ w [] w' g num [iO num] [] [],?_,fun w' hw=>⟨g,rfl,hw⟩⟩
 have fin:∀ {w':World} {M:List Res} {g2:Nat} {a:Option Addr} {c:Nat},bZ w [] w' g num [] [] M→RdB w' (some ⟨g2,0,none⟩) 8 8 oT→RdB w' a 8 c (fA (n64 num))→∃va vc w'',(Builtin.append_ #[26,26] 26 #[.slice (some ⟨g2,0,none⟩) 8 8,.slice a 8 c]).run Tryz.prog w'=.ok (.slice va 16 vc) w''∧
     Calls Tryz.prog 367 #[.pointer (some ⟨g,0,none⟩),.slice va 16 vc] w'' fun e w3=>e=.returned (.tuple #[])∧bZ w [] w3 g num [iO num] [] []:=by
   intro w' M g2 a c hF hm hn
   obtain ⟨va,vc,w2,r2,k2⟩:=(St.start w').AG hm (by simp) hn (by decide) (by decide)
   refine ⟨va,vc,w2,r2,?_⟩
   have hF2:=hF.dh k2
   have e16:(iO num).length=16:=jY num
   have hF3:bZ w [] w2 g num [] [] (M++ [.row 5 1 (.slice va (iO num).length vc) (iO num).length (bv (iO num))]):=by rw [e16];exact hF2
   have:=xL hF3 (by simp) (by simp)
   rw [e16] at this
   refine this.mono ?_
   rintro e w3 ⟨rfl,h3⟩
   exact ⟨rfl,h3.KS (List.nil_sublist _)⟩
 have lit:∀w',∃g2 w'',(Instr.buildSlice 26 8 #[(0,.int .u8 97),(1,.int .u8 109),(2,.int .u8 112),(3,.int .u8 104),(4,.int .u8 112),(5,.int .u8 97),(6,.int .u8 99),(7,.int .u8 107)]).run Tryz.prog w'=.ok (.slice (some ⟨g2,0,none⟩) 8 8) w''∧St w' [] w'' [.row 5 1 (.slice (some ⟨g2,0,none⟩) 8 8) 8 (bv oT)]:=fun w'=>(St.start w').lit bT (bv oT) (aG _) (by decide)
 refine ⟨?_,?_⟩
 · obtain ⟨g2,w2,r2,k2⟩:=lit w1.drew
   refine ⟨_,_,_,w2,r2,?_,?_⟩
   · obtain ⟨w3,o,r3,k3,ho⟩:=j9 k2 (i:=0) rfl
     have k3:St w1.drew [] w3 [.blk g2 o]:=k3
     refine ⟨_,_,_,w3,r3,(iY num w3).mono ?_⟩
     rintro e w4 ⟨a,c,rfl,hf⟩
     have k4:St w1.drew [] w4 [.blk g2 o,.row 5 1 (.slice a 8 c) 8 (bv (fA (n64 num)))]:=hf.add k3
     obtain ⟨va,vc,w5,r5,hC⟩:=fin ((h1f.same (Chg.drew [] w1)).dh k4) (ho _ (k4.holds 0 _ rfl)) (k4.rd (i:=1) rfl)
     exact ⟨_,_,_,rfl,_,_,_,w5,r5,hC⟩
   · refine (iY num w2).mono ?_
     rintro e w3 ⟨a,c,rfl,hf⟩
     have k3:St w1.drew [] w3 [.row 5 1 (.slice (some ⟨g2,0,none⟩) 8 8) 8 (bv oT),.row 5 1 (.slice a 8 c) 8 (bv (fA (n64 num)))]:=hf.add k2
     obtain ⟨w4,o,r4,k4,ho⟩:=j9 k3 (i:=0) rfl
     have k4:St w1.drew [] w4 [.blk g2 o,.row 5 1 (.slice a 8 c) 8 (bv (fA (n64 num)))]:=k4
     obtain ⟨va,vc,w5,r5,hC⟩:=fin ((h1f.same (Chg.drew [] w1)).dh k4) (ho _ (k4.holds 0 _ rfl)) (k4.rd (i:=1) rfl)
     exact ⟨_,_,_,rfl,_,_,_,w4,r4,_,_,_,w5,r5,hC⟩
 · refine (iY num w1.drew).mono ?_
   rintro e w2 ⟨a,c,rfl,hf⟩
   have k2:St w1.drew [] w2 [.row 5 1 (.slice a 8 c) 8 (bv (fA (n64 num)))]:=hf.add (St.start w1.drew)
   obtain ⟨g2,w3,r3,k3⟩:=k2.lit bT (bv oT) (aG _) (by decide)
   have k3:St w1.drew [] w3 [.row 5 1 (.slice a 8 c) 8 (bv (fA (n64 num))),.row 5 1 (.slice (some ⟨g2,0,none⟩) 8 8) 8 (bv oT)]:=k3
   obtain ⟨w4,o,r4,k4,ho⟩:=j9 k3 (i:=1) rfl
   have k4:St w1.drew [] w4 [.row 5 1 (.slice a 8 c) 8 (bv (fA (n64 num))),.blk g2 o]:=k4
   obtain ⟨va,vc,w5,r5,hC⟩:=fin ((h1f.same (Chg.drew [] w1)).dh k4) (ho _ (k4.holds 1 _ rfl)) (k4.rd (i:=0) rfl)
   exact ⟨_,_,_,rfl,_,_,_,w3,r3,_,_,_,w4,r4,_,_,_,w5,r5,hC⟩

end

end Go.Proofs.YtpmhjnhgpplmnaaGreatDoor
end

section
namespace Go.Proofs.YtpmhjnhgpplmnaaGreatDoor
open Go Sx
set_option maxRecDepth 8000

theorem itA (w:World):(isAgg 303).run Tryz.prog w=.ok true w:=Tryz.isAgg303 w
theorem itS (w:World):(sizeOf 303).run Tryz.prog w=.ok 33 w:=Tryz.sizeOf303 w
def it0:ItD:=⟨List.replicate 32 0,none,0,0,[],by simp⟩
theorem itZ (w:World):(zeroValue 303).run Tryz.prog w=.ok (.agg (itC it0).toArray) w:=Tryz.zeroValue303 w
theorem Dk (x:ItD):(itC x)[32]?=some (.slice x.a x.n x.c):=by
 rw [itC,List.getElem?_append_right (by simp [x.idl])];simp [x.idl]

theorem H6 (id:List UInt8) (p q n:Int) (w:World) (hl:id.length=32):(Instr.build 100 #[(0,.agg (bv id).toArray),(1,.int .i64 p),(2,.int .i64 q),(3,.int .i64 n)]).run Tryz.prog w=.ok (.agg (bv id++ [Value.int .i64 p,Value.int .i64 q,Value.int .i64 n]).toArray) w:=by
 apply run_build
 rw [I5]
 show Instr.fill _ _ [(0,_),(1,_),(2,_),(3,_)]=_
 have hz:(aC ep).toArray=(bv (List.replicate 32 0)++ [Value.int .i64 0,Value.int .i64 0,Value.int .i64 0]).toArray:=rfl
 rw [hz,aA (off:=0) (sz:=32) rfl (by simp [Value.cells,hl]) (by simp),aA (off:=32) (sz:=1) rfl rfl (by simp [Value.cells,hl]),aA (off:=33) (sz:=1) rfl rfl (by simp [Value.cells,hl]),aA (off:=34) (sz:=1) rfl rfl (by simp [Value.cells,hl])]
 have hbl:(bv id).length=32:=by simp [hl]
 simp [Instr.fill,Value.cells,List.take_append,List.drop_append,hbl,List.take_of_length_le,List.drop_of_length_le,hl]

section
variable {w0 w w':World} {X:List Nat} {M N N' T:List Res} {g:Nat} {num:Int} {ps:List (List UInt8)} {rs:List bq}

theorem Sx.St.vV (h:St w0 X w M) {i g:Nat} {T:TypeId} {x:ItD} (hi:M[i]?=some (.arr g T (itC x))):RdB w (some ⟨g,0,none⟩) 32 32 x.id:=by
 have rng:=h.kP hi
 refine ⟨.inr ⟨g,0,rfl,fun j v hj=>rng j v ?_⟩,by simp [x.idl],Nat.le_refl _,by simp⟩
 rw [itC,List.getElem?_append_left (List.getElem?_eq_some_iff.1 hj).1];exact hj

theorem su (x:Itm) (h:x.1.length=32) (hb:x.2.length≤67108832):33+x.2.length≤(dM x).length∧(dM x).length≤42+x.2.length:=by
 have:=ff 9 (x.1++x.2).length (by rw [List.length_append,h];omega) (by decide)
 have:=xZ (x.1++x.2).length
 simp only [dM,kD,List.length_cons,List.length_append,h] at*
 omega

set_option maxHeartbeats 1000000 in
theorem Ev (x:ItD) (h:bZ w0 X w g num ps rs N) (hr:RdB w x.a x.n x.c x.fD) (hb:x.n≤67108832) (hp:ps.length<1000000) (hrs:rs.length<1000000) (hs:ps.flatten.length≤1099511627776) (hnum:OkI num):
   Calls Tryz.prog 337 #[.pointer (some ⟨g,0,none⟩),.agg (itC x).toArray] w fun e w'=>e=.returned (.tuple #[])∧
     bZ w0 X w' g num (ps++ [dM x.t]) (rs++ [mkRef x.id num (((ps.flatten.length+(dM x.t).length:Nat):Int)- ((x.fD.length:Nat):Int)) ((x.fD.length:Nat):Int)]) N:=by
 have hl:=hr.bh
 have hid:=x.idl
 obtain ⟨fl1,fl2⟩:=su x.t hid (by show x.fD.length≤_;omega)
 have ht2:x.t.2.length=x.n:=hl
 obtain ⟨F,hF⟩:∃F,dM x.t=F:=⟨_,rfl⟩
 rw [hF] at fl1 fl2 ⊢
 apply sD
 obtain ⟨g3,w1,r1,k1⟩:=(St.start w).b7 (P:=Tryz.prog) 303 (itC x)
 have h1:=(h.dh k1).same (Chg.drew [] w1)
 have pk:∀ {w' ps' rs' T},bZ w0 X w' g num ps' rs' ((N++([]++ [.arr g3 303 (itC x)]))++T)→St w0 X w' [.arr g3 303 (itC x)]:=fun h=>h.rest.sub ((List.sublist_append_right N _).trans (List.sublist_append_left _ _))
 have pk0:∀ {w' ps' rs'},bZ w0 X w' g num ps' rs' (N++([]++ [.arr g3 303 (itC x)]))→St w0 X w' [.arr g3 303 (itC x)]:=fun h=>h.rest.sub (List.sublist_append_right N _)
 have ldB:∀ {w'},St w0 X w' [.arr g3 303 (itC x)]→(Instr.loadAt 26 (.pointer (some ⟨g3,32,none⟩))).run Tryz.prog w'=.ok (.slice x.a x.n x.c) w':=fun h=>h.ldL (i:=0) (o:=32) rfl (MT _) rfl (Dk x)
 obtain ⟨g2,w2,r2,k2⟩:=(St.start w1.drew).lit bbT [.slice (some ⟨g3,0,none⟩) 32 32,.slice x.a x.n x.c] (by simp [Value.oneCell']) (by simp)
 have h2:=h1.same k2.chg
 let S:World→Prop:=fun w'=>St w0 X w' [.arr g3 303 (itC x)]
 have c02:Chg [] w w2:=(k1.chg.trans (Chg.drew [] w1)).trans k2.chg
 refine ⟨g3,w1,r1,S,pk0 h1,by omega,by omega,_,_,_,fun w' hw=>ldB hw,_,_,_,w2,r2,S,fun _ h=>h,pk0 h2,(yH 2 _ 2 2 _ [x.id,x.fD] w2 (k2.rd (i:=0) rfl) (eL.cons ((pk0 h2).vV (i:=0) rfl) (eL.cons (hr.an c02) (eL.nil _))) (by simp;omega) (by simp)).mono ?_⟩
 rintro e w3 ⟨fa,fn,fc,rfl,hf⟩
 have eF:kD 2 [x.id,x.fD].flatten=F:=by rw [←hF];simp [dM,ItD.t]
 rw [eF] at hf
 have hfn:F.length=fn:=hf.2.1
 subst hfn
 have h3:bZ w0 X w3 g num ps rs ((N++([]++ [.arr g3 303 (itC x)]))++ [.row 5 1 (.slice fa F.length fc) F.length (bv F)]):=h2.dh (hf.add (St.start w2))
 have h3D:=h3.same (Chg.drew [] w3)
 obtain ⟨f3,e31,e32,q3⟩:=h3D
 let S3:World→Prop:=fun w'=>St w0 X w' (lz g num f3++(f3.ps.map PcD.row++((N++([]++ [.arr g3 303 (itC x)]))++ [.row 5 1 (.slice fa F.length fc) F.length (bv F)])))
 have pk3:∀w',S3 w'→St w0 X w' [.arr g3 303 (itC x)]:=fun w' h=>pk ⟨f3,rfl,rfl,h⟩
 refine ⟨_,_,_,rfl,S,fun _ h=>h,pk h3,S3,q3,_,fun w' hw=>Sx.St.ldL hw (i:=0) (o:=1) rfl (inA _) rfl rfl,_,_,_,fun w' hw=>ldB (pk3 w' hw),(xL (h3.same (Chg.drew [] w3)) hp (by omega)).mono ?_⟩
 rintro e w4 ⟨rfl,h4⟩
 have h4D:=h4.same (Chg.drew [] w4)
 obtain ⟨f4,e41,e42,q4⟩:=h4D
 let S4:World→Prop:=fun w'=>St w0 X w' [.arr g 388 (lU num f4),.arr g3 303 (itC x)]
 have s4:∀ {w' r1 r2},St w0 X w' (.arr g 388 (lU num f4)::r1::r2::(f4.ps.map PcD.row++(N++([]++ [.arr g3 303 (itC x)]))))→S4 w':=fun h=>h.sub (List.Sublist.cons_cons _ (((List.sublist_append_right N _).trans (List.sublist_append_right _ _)).trans ((List.sublist_cons_self _ _).trans (List.sublist_cons_self _ _))))
 have pk4:∀w',S4 w'→St w0 X w' [.arr g3 303 (itC x)]:=fun w' h=>Sx.St.tail h
 have ldI:∀w',S4 w'→(Instr.loadAt 87 (.pointer (some ⟨g3,0,none⟩))).run Tryz.prog w'=.ok (.agg (bv x.id).toArray) w':=fun w' hw=>by
   have:=(pk4 w' hw).G1 (i:=0) (T:=87) (n:=32) rfl (DQ w') (zz w') (by simp)
   rw [itC,List.take_left' (by simp [hid])] at this
   exact this
 have eAt:IntKind.wrap .i64 ((IntKind.wrap .i64 ((((f3.ps.map PcD.l).flatten.length:Nat):Int)+((F.length:Nat):Int)))- ((x.n:Nat):Int))=(((ps.flatten.length+F.length:Nat):Int)- ((x.fD.length:Nat):Int)):=by
   have ei:IntKind.wrap .i64 (((ps.flatten.length:Nat):Int)+((F.length:Nat):Int))=((ps.flatten.length:Nat):Int)+((F.length:Nat):Int):=wrap_i64 (by omega) (by omega)
   rw [e31,ei,wrap_i64 (by omega) (by omega)];omega
 have hrs4:f4.rs.length<1000000:=by rw [e42];exact hrs
 have okA:OkI (((ps.flatten.length+F.length:Nat):Int)- ((x.fD.length:Nat):Int)):=⟨by omega,by omega⟩
 have okN:OkI ((x.fD.length:Nat):Int):=⟨by omega,by omega⟩
 have eC:=Ln hid hnum okA okN
 obtain ⟨r,hrr⟩:∃r,mkRef x.id num (((ps.flatten.length+F.length:Nat):Int)- ((x.fD.length:Nat):Int)) ((x.fD.length:Nat):Int)=r:=⟨_,rfl⟩
 rw [hrr] at eC ⊢
 obtain ⟨g5,w5,va,vc,w6,r5,r6,h6,h5⟩:=q4.tP (i:=2) (ty:=48) rfT rfl (aC r) (aI r) (by decide) (dR r) (by omega) (by simp only [maxLen];omega)
 obtain ⟨w7,r7,h7⟩:=h6.stL (i:=0) (o:=3) (off:=3) (T:=48) (v:=.slice va (f4.rs.length+1) vc) rfl (OD _) rfl (by simp [lU]) rfl
 have h6:St w0 X w6 (.arr g 388 (lU num f4):: .row 26 1 (.slice f4.la f4.ps.length f4.lc) f4.ps.length (f4.ps.map PcD.v):: .row 100 35 (.slice va (f4.rs.length+1) vc) (f4.rs.length+1) (f4.rs.flatMap aC++aC r)::(f4.ps.map PcD.row++(N++([]++ [.arr g3 303 (itC x)])))):=h6
 refine ⟨rfl,S4,s4 q4,_,_,_,fun w' hw=>Sx.St.ldL hw (i:=0) (o:=3) rfl (M3 _) rfl rfl,_,ldI,_,fun w' hw=>Sx.St.ldL hw (i:=0) (o:=2) rfl (inA _) rfl rfl,_,_,_,fun w' hw=>ldB (pk4 w' hw),_,fun w' hw=>by rw [eAt,←hl];exact H6 x.id num _ _ w' hid,_,_,_,w5,by rw [←eC];exact r5,S4,fun _ h=>h,s4 h5,_,_,_,w6,r6,S4,fun _ h=>h,s4 h6,w7,r7,rfl, { f4 with ra:=va,rc:=vc,rs:=f4.rs++ [r] },e41,by rw [←e42],?_⟩
 have h8:St w0 X w7 ([.arr g 388 [.slice f4.la f4.ps.length f4.lc,.int .i64 (((f4.ps.map PcD.l).flatten.length:Nat):Int),.int .i64 num,.slice va (f4.rs.length+1) vc],.row 26 1 (.slice f4.la f4.ps.length f4.lc) f4.ps.length (f4.ps.map PcD.v),.row 100 35 (.slice va (f4.rs.length+1) vc) (f4.rs.length+1) (f4.rs.flatMap aC++aC r)]++(f4.ps.map PcD.row++(N++([]++ [.arr g3 303 (itC x)])))):=h7
 have e2:lz g num { f4 with ra:=va,rc:=vc,rs:=f4.rs++ [r] } =[.arr g 388 [.slice f4.la f4.ps.length f4.lc,.int .i64 (((f4.ps.map PcD.l).flatten.length:Nat):Int),.int .i64 num,.slice va (f4.rs.length+1) vc],.row 26 1 (.slice f4.la f4.ps.length f4.lc) f4.ps.length (f4.ps.map PcD.v),.row 100 35 (.slice va (f4.rs.length+1) vc) (f4.rs.length+1) (f4.rs.flatMap aC++aC r)]:=by
   simp [lz,lU]
 rw [e2]
 exact h8.sub (List.Sublist.append_left (List.Sublist.append_left (List.sublist_append_left _ _) _) _)

theorem xF (a:Option Addr) (n c:Nat) (l:List bq) (w:World) (hr:RdR w a n c l) (hb:n≤1000000):
   Calls Tryz.prog 260 #[.slice a n c] w fun e w'=>∃a' n' c',e=.returned (.slice a' n' c')∧aS w w' a' n' c' (eY l):=by
 have hln:=hr.num (by decide)
 apply sG
 have h1:St w [] w [.row 5 1 (.slice none 0 0) 0 (bv (eY (l.take 0)))]:=(St.start w).b8 _ _
 refine ⟨fun xa xn xc x w'=>∃i:Nat,x=(i:Int)∧i≤n∧St w [] w' [.row 5 1 (.slice xa xn xc) xn (bv (eY (l.take i)))],fun _ _ _ x _=>n-x.toNat,⟨0,rfl,by omega,h1⟩,?_⟩
 rintro xa xn xc x w2 ⟨i,rfl,hi,h2⟩
 have hxn:xn=48*i:=by
   have e1:=(h2.rd (i:=0) rfl).bh
   rw [gV,List.length_take] at e1
   omega
 refine ⟨fun h=>?_,fun h=>?_⟩
 · have hi':i<n:=by simp at h;omega
   have ha:l[i]?=some l[i]:=List.getElem?_eq_getElem (by omega)
   obtain ⟨r,hrr⟩:∃r,l[i]=r:=⟨_,rfl⟩
   rw [hrr] at ha
   obtain ⟨b,o,hab,q⟩:=hr.ld (P:=Tryz.prog) (by decide) rfA rfS ha
   obtain ⟨g5,w3,r3,h3⟩:=h2.az rfZ
   obtain ⟨w4,r4,h4⟩:=h3.stA (i:=1) (v:=aC r) rfl (rfS _) (aI _) (aI _) (dR _)
   have h4:St w [] w4 [.row 5 1 (.slice xa xn xc) xn (bv (eY (l.take i))),.arr g5 100 (aC r)]:=h4
   obtain ⟨va,vc,w5,r5,h5⟩:=h4.bL (i:=0) rfl (h4.NK (i:=1) rfl) (by omega)
   have h5:St w [] w5 [.row 5 1 (.slice va (xn+32) vc) (xn+32) (bv (eY (l.take i)++r.id)),.arr g5 100 (aC r)]:=h5
   obtain ⟨_,fa,fl⟩:=u6 h5 (i:=1) rfl
   refine ⟨b,o,hab,by omega,by omega,_,q w2 (hr.an h2.chg),g5,w3,r3,w4,r4,by omega,by omega,_,_,_,w5,r5,_,fa,(iY r.at_ w5).mono ?_⟩
   rintro e w6 ⟨a6,c6,rfl,hf6⟩
   have h6:=hf6.add h5
   have h6:St w [] w6 [.row 5 1 (.slice va (xn+32) vc) (xn+32) (bv (eY (l.take i)++r.id)),.arr g5 100 (aC r),.row 5 1 (.slice a6 8 c6) 8 (bv (fA (n64 r.at_)))]:=h6
   obtain ⟨vd,ve,w7,r7,h7⟩:=h6.bL (i:=0) rfl (h6.rd (i:=2) rfl) (by omega)
   have h7:St w [] w7 [.row 5 1 (.slice vd (xn+32+8) ve) (xn+32+8) (bv (eY (l.take i)++r.id++fA (n64 r.at_))),.arr g5 100 (aC r),.row 5 1 (.slice a6 8 c6) 8 (bv (fA (n64 r.at_)))]:=h7
   obtain ⟨_,_,fl⟩:=u6 h7 (i:=1) rfl
   refine ⟨_,_,_,rfl,_,_,_,w7,r7,_,fl,(iY r.len w7).mono ?_⟩
   rintro e w8 ⟨a8,c8,rfl,hf8⟩
   have h8:=hf8.add h7
   have h8:St w [] w8 [.row 5 1 (.slice vd (xn+32+8) ve) (xn+32+8) (bv (eY (l.take i)++r.id++fA (n64 r.at_))),.arr g5 100 (aC r),.row 5 1 (.slice a6 8 c6) 8 (bv (fA (n64 r.at_))),.row 5 1 (.slice a8 8 c8) 8 (bv (fA (n64 r.len)))]:=h8
   obtain ⟨vf,vg,w9,r9,h9⟩:=h8.bL (i:=0) rfl (h8.rd (i:=3) rfl) (by omega)
   refine ⟨_,_,_,rfl,_,_,_,w9,r9,⟨i+1,aq hi' (by omega),by omega,?_⟩,aB hi' (by omega)⟩
   have e2:eY (l.take (i+1))=eY (l.take i)++r.id++fA (n64 r.at_)++fA (n64 r.len):=by
     rw [List.take_add_one,ha];simp [eY,G2,List.append_assoc]
   rw [e2]
   exact h9.sub (List.Sublist.cons_cons _ (List.nil_sublist _))
 · have hi':i=n:=by simp at h;omega
   rw [hi',List.take_of_length_le (by omega)] at h2
   exact ⟨_,_,_,rfl,h2.iW (i:=0) rfl⟩

end

end Go.Proofs.YtpmhjnhgpplmnaaGreatDoor
end

section
namespace Go.Proofs.YtpmhjnhgpplmnaaGreatDoor
open Go Sx
set_option maxRecDepth 8000

theorem cH.take {xs:List Itm} (h:cH xs) (i:Nat):cH (xs.take i):=by
 refine ⟨by have:=h.num;simp;omega,fun x hx=>h.idl x (List.mem_of_mem_take hx),?_⟩
 have e:(xs.take i++xs.drop i).map (fun x=>x.2.length)=xs.map (fun x=>x.2.length):=by rw [List.take_append_drop]
 have h2:=congrArg List.sum e
 rw [List.map_append,List.sum_append] at h2
 have:=h.sum
 omega
theorem ym:∀(xs:List Itm),(∀x∈xs,x.1.length=32∧x.2.length≤67108832)→(xs.map dM).flatten.length≤42*xs.length+(xs.map fun x=>x.2.length).sum
 | [],_=>by simp
 | x::r,h=>by
   obtain ⟨h1,h2⟩:=h x (by simp)
   have:=(su x h1 h2).2
   have:=ym r fun y hy=>h y (by simp [hy])
   simp only [List.map_cons,List.flatten_cons,List.length_append,List.length_cons,List.sum_cons]
   omega
theorem cH.bytes {xs:List Itm} (h:cH xs):(xs.map dM).flatten.length≤16950000:=by
 have h1:=ym xs fun x hx=>⟨h.idl x hx,by have:=h.fD hx;omega⟩
 have h2:=h.num
 have h3:=h.sum
 omega
theorem JE (num:Int) (xs:List Itm):(iO num::xs.map dM).flatten.length=nw 16 xs:=by
 rw [sK];simp

section
variable {w0 w w':World} {X:List Nat} {M N N' T:List Res} {g:Nat} {num:Int} {ps:List (List UInt8)} {rs:List bq}

theorem tV (w:World):(isAgg 41).run Tryz.prog w=.ok true w:=Tryz.isAgg41 w
theorem qF (w:World):(sizeOf 41).run Tryz.prog w=.ok 96 w:=Tryz.sizeOf41 w

theorem MS (h:St w0 X w M) {i:Nat} {a:Option Addr} {c:Nat} {l:List bq} (hi:M[i]?=some (.row 100 35 (.slice a l.length c) l.length (l.flatMap aC))):RdR w a l.length c l:=⟨h.rd hi,fun x _=>aI x⟩

set_option maxHeartbeats 1000000 in
theorem EB (K:List UInt8) (hk:K.length=96) (hK:cR w) (h:bZ w0 X w g num ps rs N) (hp:ps.length<1000000) (hrs:rs.length≤4096) (hs:ps.flatten.length≤1099511627776):
   Calls Tryz.prog 338 #[.pointer (some ⟨g,0,none⟩),.agg (bv K).toArray] w fun e w'=>e=.returned (.tuple #[])∧bZ w0 X w' g num (ps++ [gu K num rs]) rs N:=by
 apply sY
 obtain ⟨g3,w1,r1,k1⟩:=(St.start w).b7 (P:=Tryz.prog) 41 (bv K)
 have h1:=(h.dh k1).same (Chg.drew [] w1)
 obtain ⟨f,rfl,rfl,q1⟩:=h1
 have cD:Chg [] w w1.drew:=k1.chg.trans (Chg.drew [] w1)
 let Q:World→Prop:=fun w'=>St w0 X w' (.arr g 388 (lU num f):: .row 26 1 (.slice f.la f.ps.length f.lc) f.ps.length (f.ps.map PcD.v):: .row 100 35 (.slice f.ra f.rs.length f.rc) f.rs.length (f.rs.flatMap aC)::(f.ps.map PcD.row++(N++([]++ [.arr g3 41 (bv K)]))))
 let S:World→Prop:=fun w'=>∃v1 v2:Value,St w0 X w' [.arr g 388 [v1,v2,.int .i64 num,.slice f.ra f.rs.length f.rc],.arr g3 41 (bv K)]
 have q1:Q w1.drew:=q1
 have tl:∀ {L:List Res},(([.arr g3 41 (bv K)]:List Res)).Sublist (.row 26 1 (.slice f.la f.ps.length f.lc) f.ps.length (f.ps.map PcD.v):: .row 100 35 (.slice f.ra f.rs.length f.rc) f.rs.length (f.rs.flatMap aC)::(L++(N++([]++ [.arr g3 41 (bv K)])))):=(((List.sublist_append_right N _).trans (List.sublist_append_right _ _)).trans (List.sublist_cons_self _ _)).trans (List.sublist_cons_self _ _)
 have sk:∀w',Q w'→S w':=fun w' h=>⟨_,_,Sx.St.sub h (List.Sublist.cons_cons _ tl)⟩
 refine ⟨g3,w1,r1,S,sk _ q1,_,fun w' ⟨v1,v2,hw⟩=>hw.ldA (i:=1) (l:=bv K) rfl (tV _) (qF _) (by simp [hk]),_,fun w' ⟨v1,v2,hw⟩=>hw.ldL (i:=0) (o:=2) rfl (inA _) rfl rfl,_,_,_,fun w' ⟨v1,v2,hw⟩=>hw.ldL (i:=0) (o:=3) rfl (M3 _) rfl rfl,(iY num _).mono ?_⟩
 rintro e w2 ⟨a2,c2,rfl,hf2⟩
 have q2:Q w2:=Sx.St.same q1 hf2.1
 refine ⟨_,_,_,rfl,S,fun _ h=>h,sk _ q2,(xF _ _ _ f.rs w2 (MS q2 (i:=2) rfl) (by omega)).mono ?_⟩
 rintro e w3 ⟨a3,n3,c3,rfl,hf3⟩
 have q3:Q w3:=Sx.St.same q2 hf3.1
 have hn3:n3=48*f.rs.length:=by rw [←hf3.2.1,gV]
 refine ⟨_,_,_,rfl,S,fun _ h=>h,sk _ q3,(pL K 3 a2 8 c2 (fA (n64 num)) a3 n3 c3 (eY f.rs) w3 hk (((hK.an cD).an hf2.1).an hf3.1) (hf2.rdB.an hf3.1) hf3.rdB (by omega)).mono ?_⟩
 rintro e w4 ⟨a4,n4,c4,rfl,hf4⟩
 have q4:Q w4:=Sx.St.same q3 hf4.1
 have hsl:=fW K 3 (fA (n64 num)) (eY f.rs) (by rw [gV];omega)
 rw [gV] at hsl
 obtain ⟨g5,w5,r5,k5⟩:=(St.start w4).lit bbT [.slice a4 n4 c4] (by simp [Value.oneCell']) (by simp)
 have q5:Q w5:=Sx.St.same q4 k5.chg
 refine ⟨_,_,_,rfl,S,fun _ h=>h,sk _ q4,_,_,_,w5,r5,S,fun _ h=>h,sk _ q5,(yH 3 _ 1 1 _ [dA K 3 (fA (n64 num)) (eY f.rs)] w5 (k5.rd (i:=0) rfl) (eL.cons (hf4.rdB.an k5.chg) (eL.nil _)) (by simp;omega) (by simp)).mono ?_⟩
 rintro e w6 ⟨a6,n6,c6,rfl,hf6⟩
 have eF:kD 3 [dA K 3 (fA (n64 num)) (eY f.rs)].flatten=gu K num f.rs:=by simp [gu]
 rw [eF] at hf6
 have hn6:(gu K num f.rs).length=n6:=hf6.2.1
 subst hn6
 have hfl:(gu K num f.rs).length≤67108864:=by
   have:=ff 9 (dA K 3 (fA (n64 num)) (eY f.rs)).length (by omega) (by decide)
   simp only [gu,kD,List.length_cons,List.length_append]
   omega
 have q6:Q w6:=Sx.St.same q5 hf6.1
 have h6:St w0 X w6 (lz g num f++(f.ps.map PcD.row++((N++([]++ [.arr g3 41 (bv K)]))++ [.row 5 1 (.slice a6 (gu K num f.rs).length c6) (gu K num f.rs).length (bv (gu K num f.rs))]))):=by
   have q5':St w0 X w5 ((lz g num f++(f.ps.map PcD.row++(N++([]++ [.arr g3 41 (bv K)]))))++ []):=by rw [List.append_nil];exact q5
   have:=Sx.St.cC (N:=[]) q5' (hf6.add (St.start w5))
   simpa only [List.append_assoc,List.nil_append] using this
 refine ⟨_,_,_,rfl,S,fun _ h=>h,sk _ q6,(v7 h6 (by simpa using hp) (by omega)).mono ?_⟩
 rintro e w7 ⟨rfl,la,lc,h7⟩
 have h7':St w0 X w7 (.arr g 388 (lU num { f with la:=la,lc:=lc,ps:=f.ps++ [⟨a6,c6,gu K num f.rs⟩] }):: .row 26 1 (.slice la (f.ps++ [(⟨a6,c6,gu K num f.rs⟩:PcD)]).length lc) (f.ps++ [(⟨a6,c6,gu K num f.rs⟩:PcD)]).length ((f.ps++ [(⟨a6,c6,gu K num f.rs⟩:PcD)]).map PcD.v):: .row 100 35 (.slice f.ra f.rs.length f.rc) f.rs.length (f.rs.flatMap aC)::((f.ps++ [(⟨a6,c6,gu K num f.rs⟩:PcD)]).map PcD.row++(N++([]++ [.arr g3 41 (bv K)])))):=h7
 refine ⟨rfl,S,fun _ h=>h,⟨_,_,h7'.sub (List.Sublist.cons_cons _ ?_)⟩,rfl, { f with la:=la,lc:=lc,ps:=f.ps++ [⟨a6,c6,gu K num f.rs⟩] },by simp,rfl,h7.sub (List.Sublist.append_left (List.Sublist.append_left (List.sublist_append_left _ _) _) _)⟩
 exact (((List.sublist_append_right N _).trans (List.sublist_append_right _ _)).trans (List.sublist_cons_self _ _)).trans (List.sublist_cons_self _ _)

end

end Go.Proofs.YtpmhjnhgpplmnaaGreatDoor
end

section
namespace Go.Proofs.YtpmhjnhgpplmnaaGreatDoor
open Go Sx
set_option maxRecDepth 8000

section
variable {w0 w w':World} {X:List Nat} {M N N' T:List Res} {g:Nat} {num:Int} {ps:List (List UInt8)} {rs:List bq}

theorem oL (num:Int) (w:World):Calls Tryz.prog 221 #[.int .i64 num] w fun e w'=>e=.returned (.bool (cU num))∧w'=w:=by
 apply BE
 exact ⟨by simp [cU,ge_iff_le],rfl⟩

theorem Kc (K:List UInt8) (num:Int) (a:Option Addr) (n c:Nat) (w:World) (hg:cU num=false):
   Calls Tryz.prog 290 #[.agg (bv K).toArray,.int .i64 num,.slice a n c] w fun e w'=>e=.returned (.tuple #[.pointer none,bk (some 28)])∧Chg [] w w':=by
 apply tj
 obtain ⟨g3,w1,r1,k1⟩:=(St.start w).b7 (P:=Tryz.prog) 41 (bv K)
 refine ⟨g3,w1,r1,(oL num w1).mono ?_⟩
 rintro e w2 ⟨rfl,rfl⟩
 rw [hg]
 exact ⟨_,rfl,fun _=>⟨rfl,k1.chg⟩,fun h=>by cases h⟩

theorem K1 {a:Option Addr} {n c i:Nat} {l:List ItD} {x:ItD} (hr:ItR w a n c l) (hx:l[i]?=some x) (h:St w0 X w M):
   ∃b o g w1 w2,a=some ⟨b,o,none⟩∧(Instr.loadAt 303 (.pointer (some ⟨b,o+Int.toNat (i:Int)*33,none⟩))).run Tryz.prog w=.ok (.agg (itC x).toArray) w∧(Instr.alloc 303 true (.tuple #[])).run Tryz.prog w=.ok (.pointer (some ⟨g,0,none⟩)) w1∧
     (Instr.storeAt 303 (.pointer (some ⟨g,0,none⟩)) (.agg (itC x).toArray)).run Tryz.prog w1=.ok () w2∧St w0 X w2 (M++ [.arr g 303 (itC x)]):=by
 obtain ⟨b,o,hab,q⟩:=hr.rd.ld (P:=Tryz.prog) (by decide) itA itS hx
 obtain ⟨g,w1,r1,h1⟩:=h.az itZ
 obtain ⟨w2,r2,h2⟩:=h1.stA (i:=M.length) (v:=itC x) List.getElem?_concat_length (itS _) (wH _) (wH _) (LQ _)
 refine ⟨b,o,g,w1,w2,hab,q w hr.rd,r1,r2,?_⟩
 rw [List.set_append_right _ _ (Nat.le_refl _),Nat.sub_self] at h2
 exact h2

set_option maxHeartbeats 1000000 in
theorem Dp (K:List UInt8) (hk:K.length=96) (num:Int) (a:Option Addr) (n c:Nat) (l:List ItD) (w:World) (hK:cR w) (hg:cU num=true) (hr:ItR w a n c l) (hs:cH (l.map ItD.t)):
   Calls Tryz.prog 290 #[.agg (bv K).toArray,.int .i64 num,.slice a n c] w fun e w'=>∃g,e=.returned (.tuple #[.pointer (some ⟨g,0,none⟩),bk none])∧bZ w [] w' g num (dH K num (l.map ItD.t)) (aT num 16 (l.map ItD.t)) []:=by
 have hln:=hr.rd.num (by decide)
 have hnum:=hs.num
 rw [List.length_map] at hnum
 have hgi:=dO.1 hg
 have hbl:∀x∈l,x.n≤16777216:=fun x hx=>by
   have h1:=(hr.JF x hx).bh
   have h2:x.fD.length≤16777216:=hs.fD (List.mem_map_of_mem hx)
   omega
 apply tj
 obtain ⟨g3,w1,r1,k1⟩:=(St.start w).b7 (P:=Tryz.prog) 41 (bv K)
 have k1:St w [] w1 [.arr g3 41 (bv K)]:=k1
 refine ⟨g3,w1,r1,(oL num w1).mono ?_⟩
 rintro e w2 ⟨rfl,rfl⟩
 rw [hg]
 refine ⟨_,rfl,fun h=>(by cases h),fun _=>⟨fun x w'=>∃i:Nat,x=(i:Int)∧i≤n∧St w [] w' [.arr g3 41 (bv K)],fun x _=>n-x.toNat,⟨0,rfl,by omega,k1⟩,?_⟩⟩
 rintro x w3 ⟨i,rfl,hi,k3⟩
 refine ⟨fun h=>?_,fun h=>?_⟩
 · have hi':i<n:=by simp at h;omega
   have hx:l[i]?=some l[i]:=List.getElem?_eq_getElem (by omega)
   obtain ⟨b,o,g9,w4,w5,hab,hld,r4,r5,k5⟩:=K1 (hr.an k3.chg) hx k3
   have hb:=hbl l[i] (List.getElem_mem _)
   refine ⟨b,o,hab,by omega,by omega,_,hld,g9,w4,r4,w5,r5,_,_,_,k5.ldL (i:=1) (o:=32) rfl (MT _) rfl (Dk _),fun h=>?_,fun _=>⟨⟨i+1,aq hi' (by omega),by omega,k5.sub (List.sublist_append_left _ _)⟩,aB hi' (by omega)⟩⟩
   simp at h;omega
 refine (Br num w3).mono ?_
 rintro e w6 ⟨g,rfl,h6⟩
 have k6:=k3.same h6.chg
 have h6:bZ w [] w6 g num [iO num] [] [.arr g3 41 (bv K)]:=by
   obtain ⟨f,e1,e2,hS⟩:=h6
   have:=Sx.St.cC (M:=[.arr g3 41 (bv K)]) (N:=[]) k3 hS
   refine ⟨f,e1,e2,this.perm ?_⟩
   rw [List.append_nil (List.map PcD.row f.ps),←List.append_assoc (lz g num f)]
   exact List.perm_append_comm
 refine ⟨_,_,rfl,fun x w'=>∃i:Nat,x=(i:Int)∧i≤n∧bZ w [] w' g num (iO num::((l.map ItD.t).take i).map dM) (aT num 16 ((l.map ItD.t).take i)) [.arr g3 41 (bv K)],fun x _=>n-x.toNat,⟨0,rfl,by omega,by simpa [aT] using h6⟩,?_⟩
 rintro x w7 ⟨i,rfl,hi,h7⟩
 have hst:=hs.take i
 have hby:=hst.bytes
 refine ⟨fun h=>?_,fun h=>?_⟩
 · have hi':i<n:=by simp at h;omega
   have hx:l[i]?=some l[i]:=List.getElem?_eq_getElem (by omega)
   obtain ⟨x,hxx⟩:∃x,l[i]=x:=⟨_,rfl⟩
   rw [hxx] at hx
   have hxm:=List.mem_of_getElem? hx
   obtain ⟨b,o,g9,w8,w9,hab,hld,r8,r9,k9⟩:=K1 (hr.an h7.chg) hx (St.start w7)
   have h9:=h7.dh k9
   have e16:(iO num::((l.map ItD.t).take i).map dM).flatten.length=nw 16 ((l.map ItD.t).take i):=JE num _
   have hlt:((l.map ItD.t).take i).length≤4096:=hst.num
   refine ⟨b,o,hab,by omega,by omega,_,hld,g9,w8,r8,w9,r9,_,k9.ldA (i:=0) (l:=itC x) rfl (itA _) (itS _) (wH _),(Ev x h9 ((hr.JF x hxm).an h9.chg) (by have:=hbl x hxm;omega) (by simp;omega) (by rw [fu];omega) (by rw [List.flatten_cons,List.length_append,jY];omega) ⟨by omega,by omega⟩).mono ?_⟩
   rintro e w10 ⟨rfl,h10⟩
   refine ⟨rfl,⟨i+1,aq hi' (by omega),by omega,?_⟩,aB hi' (by omega)⟩
   have et:(l.map ItD.t).take (i+1)=(l.map ItD.t).take i++ [x.t]:=by
     rw [List.take_add_one,List.getElem?_map,hx];rfl
   rw [et,yW,List.map_append]
   rw [e16] at h10
   exact h10.KS (List.sublist_append_left _ _)
 · have hi':i=n:=by simp at h;omega
   rw [hi',List.take_of_length_le (by simp;omega)] at h7 hby
   refine ⟨_,(h7.rest).ldA (i:=0) (l:=bv K) rfl (tV _) (qF _) (by simp [hk]),(EB K hk (hK.an h7.chg) h7 (by simp;omega) (by rw [fu];simp;omega) (by rw [List.flatten_cons,List.length_append,jY];omega)).mono ?_⟩
   rintro e w11 ⟨rfl,h11⟩
   exact ⟨rfl,g,rfl,h11.KS (List.nil_sublist _)⟩

theorem wO (K:List UInt8) (num:Int) (xs:List Itm):(dH K num xs).length=xs.length+2:=by simp [dH]
theorem uk (K:List UInt8) (num:Int) {xs:List Itm} (h:cH xs):(aY K num xs).length≤90000000:=by
 have h1:=h.bytes
 have h2:=h.num
 have hsl:=fW K 3 (fA (n64 num)) (eY (aT num 16 xs)) (by rw [gV,fu];omega)
 rw [gV,fu] at hsl
 have hv:=ff 9 (dA K 3 (fA (n64 num)) (eY (aT num 16 xs))).length (by omega) (by decide)
 simp only [aY,dH,List.cons_append,List.flatten_cons,List.flatten_append,List.flatten_nil,List.append_nil,List.length_append,jY,gu,kD,List.length_cons]
 omega

end

end Go.Proofs.YtpmhjnhgpplmnaaGreatDoor
end

section
namespace Go.Proofs.YtpmhjnhgpplmnaaGreatDoor
open Go Go.Proofs.YtpmhjnhgpplmnaaGreatDoor.Sx
set_option maxRecDepth 100000
variable (w:World) (R:Ending→World→Prop)
theorem qE (a:Int) (h:∃(b:Int→Option Addr→Nat→Nat→World→Prop) (c:Int→Option Addr→Nat→Nat→World→Nat),b a none 0 0 w∧∀a d e f g,b a d e f g→Ifz (decide (a≥(0:Int))) (Ifz (IntKind.wrap .i64 (Int.tdiv a (128:Int))==(0:Int)) (Bsz 26 1 #[(0,.int .u8 (IntKind.wrap .u8 (Int.tmod a (128:Int))))] g (fun a b c g=>Apz 26 (.slice d e f) (.slice a b c) g fun a b c d=>R (.returned (.slice a b c)) d)) (Bsz 26 1 #[(0,.int .u8 (IntKind.wrap .u8 (IntKind.wrap .i64 (Int.tmod a (128:Int)+(128:Int)))))] g (fun h i j k=>Apz 26 (.slice d e f) (.slice h i j) k fun h i j k=>b (IntKind.wrap .i64 (Int.tdiv a (128:Int))) h i j k∧c (IntKind.wrap .i64 (Int.tdiv a (128:Int))) h i j k<c a d e f g))) (R (.returned (.slice none 0 0)) g)):Calls Tryz.prog 240 #[.int .i64 a] w R:=aa 0x1d01757542100017575ec32d23d3d80032d2702131022e21029821d1d Tryz.func240 (by kernel_rfl) h
theorem oz (a:Option Addr) (b c:Nat) (h:∃(c:Option Addr→Nat→Nat→Int→World→Prop) (d:Option Addr→Nat→Nat→Int→World→Nat),c none 0 0 0 w∧∀e f g h i,c e f g h i→Ifz (decide (h<(b:Int))) (∃j k,a=some ⟨j,k,none⟩∧0≤h∧h<(b:Int)∧Llz 26 j (k+Int.toNat h*1) i fun j k l=>Ifz (decide ((k:Int)>67108864)) (R (.returned (.slice none 0 0)) i) (∃j:World→Prop,j i.drew∧∃k l,a=some ⟨k,l,none⟩∧0≤h∧h<(b:Int)∧∃m n,a=some ⟨m,n,none⟩∧0≤h∧h<(b:Int)∧∃a b o,(∀c,j c→LdQ 26 k (l+Int.toNat h*1) (.slice a b o) c)∧∃a k l,(∀b,j b→LdQ 26 m (n+Int.toNat h*1) (.slice a k l) b)∧Clz 240 #[.int .i64 (b:Int)] i.drew fun b m n o=>∃p:World→Prop,(∀a,p a→j a)∧p o∧Apz 26 (.slice e f g) (.slice b m n) o fun b j m n=>∃o:World→Prop,(∀a,o a→p a)∧o n∧Apz 26 (.slice b j m) (.slice a k l) n fun a b j k=>∃l:World→Prop,(∀a,l a→o a)∧l k∧c a b j (IntKind.wrap .i64 (h+1)) k∧d a b j (IntKind.wrap .i64 (h+1)) k<d e f g h i)) (R (.returned (.slice e f g)) i)):Calls Tryz.prog 163 #[.slice a b c] w R:=aa 0x2d3b0001d1721c472747186471b305174351a1191822531210325001d30d738dc2820034d20722313c21981d21d1d Tryz.func163 (by kernel_rfl) h
end Go.Proofs.YtpmhjnhgpplmnaaGreatDoor
end

section
namespace Go.Proofs.YtpmhjnhgpplmnaaGreatDoor
open Go Sx
set_option maxRecDepth 8000

theorem Ic (m:Nat) (w:World) (hm:m<9223372036854775808):Calls Tryz.prog 240 #[.int .i64 (m:Int)] w fun e w'=>∃a n c,e=.returned (.slice a n c)∧aS w w' a n c (iw m):=by
 have hlen:=ff 9 m (by simpa using hm) (by decide)
 apply qE
 refine ⟨fun x a n c w'=>∃(k:Nat) (pre:List UInt8),x=(k:Int)∧k<9223372036854775808∧iw m=pre++iw k∧pre.length=n∧St w [] w' [.row 5 1 (.slice a n c) n (bv pre)],fun x _ _ _ _=>x.toNat,
   ⟨m,[],rfl,hm,rfl,rfl,(St.start w).b8 _ _⟩,?_⟩
 rintro x a n c w1 ⟨k,pre,rfl,hk,he,hl,hS⟩
 have hn:n+(iw k).length≤9:=by have:=congrArg List.length he;simp at this;omega
 have hk1:=xZ k
 have hd:IntKind.wrap .i64 (Int.tdiv (k:Int) 128)=((k / 128:Nat):Int):=by rw [show Int.tdiv (k:Int) 128=((k / 128:Nat):Int) by rw [Int.tdiv_eq_ediv_of_nonneg (by omega)];omega];exact tC _ (by omega)
 have hmo:Int.tmod (k:Int) 128=((k%128:Nat):Int):=by rw [Int.tmod_eq_emod_of_nonneg (by omega)];omega
 refine ⟨fun _=>?_,fun h=>by simp at h⟩
 rw [hd,hmo]
 refine ⟨fun h=>?_,fun h=>?_⟩
 · have hk0:k<128:=by simp at h;omega
   have hv:IntKind.wrap .u8 ((k%128:Nat):Int)=(k:Int):=by rw [wrap_u8];omega
   rw [hv]
   obtain ⟨g,w2,va,vc,w3,hr2,hr3,h3,_⟩:=hS.sV (i:=0) rfl (by omega) k (by omega)
   refine ⟨_,_,_,_,hr2,_,_,_,_,hr3,_,_,_,rfl,?_⟩
   rw [he,iZ hk0]
   exact h3.iW (i:=0) rfl
 · have hk0:¬k<128:=by simp at h;omega
   have hv:IntKind.wrap .u8 (IntKind.wrap .i64 (((k%128:Nat):Int)+128))=((k%128+128:Nat):Int):=by
     rw [wrap_i64 (by omega) (by omega),wrap_u8];omega
   rw [hv]
   obtain ⟨g,w2,va,vc,w3,hr2,hr3,h3,_⟩:=hS.sV (i:=0) rfl (by omega) (k%128+128) (by omega)
   refine ⟨_,_,_,_,hr2,_,_,_,_,hr3,⟨k / 128,pre++ [UInt8.ofNat (k%128+128)],rfl,by omega,?_,by simp [hl],h3⟩,?_⟩
   · rw [he,xu hk0];simp
   · simp;omega

end Go.Proofs.YtpmhjnhgpplmnaaGreatDoor
end
