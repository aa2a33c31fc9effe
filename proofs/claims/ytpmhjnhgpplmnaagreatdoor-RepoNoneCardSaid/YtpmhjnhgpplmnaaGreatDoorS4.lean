/- The proof of RepoNoneCardSaid, part 4: what it rests on (conditions: those that each theorem names). -/
import Derived.Test.YtpmhjnhgpplmnaaGreatDoorS3
import Derived.Test.YtpmhjnhgpplmnaaGreatDoorRows
import Derived.Shelf.Strconv.Itoa3
import Derived.Ground.NamesProg
import Derived.Test.YtpmhjnhgpplmnaaGreatDoorProg
import Derived.Maps.RangeRun
import Derived.RangeFuncRecord
import Derived.Lib.ItoaLen
import Derived.Lib.ItoaMem
import Derived.Lib.AtoiAll
import Derived.Shelf.LaysC
import Derived.Shelf.Strconv.ErrVarAll
section
namespace Go.Proofs.YtpmhjnhgpplmnaaGreatDoor
open Go Sx
set_option maxRecDepth 8000

theorem yM (a:Option Addr) (n c:Nat) (vs:List Value) (ls:List (List UInt8)) (w:World) (hr:Rd w a n c 1 vs) (h2:eL w vs ls) (hb:ls.flatten.length≤67108864) (hn:ls.length≤1048576):
   Calls Tryz.prog 163 #[.slice a n c] w fun e w'=>∃a' n' c',e=.returned (.slice a' n' c')∧aS w w' a' n' c' (bN ls):=by
 have hln:ls.length=n:=by have:=hr.len;have:=h2.len;omega
 apply oz
 refine ⟨fun xa xn xc x w'=>∃i:Nat,x=(i:Int)∧i≤n∧xn=(bN (ls.take i)).length∧St w [] w' [.row 5 1 (.slice xa xn xc) xn (bv (bN (ls.take i)))],fun _ _ _ x _=>n-x.toNat,
   ⟨0,rfl,by omega,by simp [bN],(St.start w).b8 _ _⟩,?_⟩
 rintro xa xn xc x w1 ⟨i,rfl,hi,hxn,hS⟩
 have hpb:=vB hb i
 refine ⟨fun h=>?_,fun h=>?_⟩
 · have hi':i<n:=by simp at h;omega
   obtain ⟨b,o,a',n',c',ha,hv,hrd,hld⟩:=ixS hr.cells h2 (i:=i) (by omega)
   have hl':=hrd.bh
   have hle:=mC (ls:=ls) (i:=i) (by omega)
   refine ⟨b,o,ha,by omega,by omega,_,_,_,hld w1 (hr.cells.an hS.chg),fun h=>?_,fun _=>?_⟩
   · simp at h;omega
   · have h9:=ff 9 n' (by simp;omega) (by decide)
     have hSd:=hS.drew
     refine ⟨fun w'=>Chg [] w w',hSd.chg,b,o,ha,by omega,by omega,b,o,ha,by omega,by omega,a',n',c',fun w' h=>hld w' (hr.cells.an h),a',n',c',fun w' h=>hld w' (hr.cells.an h),dy (Ic n' w1.drew (by omega)) ?_⟩
     rintro e w2 ⟨a2,n2,c2,rfl,hf2⟩
     have hS2:=hf2.add hSd
     have hn2:=hf2.2.1
     obtain ⟨va,vc,w3,hr3,hS3⟩:=hS2.bL (i:=0) rfl (hS2.rd (i:=1) rfl) (by omega)
     obtain ⟨vb,vd,w4,hr4,hS4⟩:=hS3.bL (i:=0) rfl (hS3.rd1 hrd) (by omega)
     have hpt:=yS (ls:=ls) (i:=i) (by omega)
     rw [hl'] at hpt
     refine ⟨_,_,_,rfl,fun w'=>Chg [] w w',fun _ h=>h,hS2.chg,_,_,_,_,hr3,fun w'=>Chg [] w w',fun _ h=>h,hS3.chg,_,_,_,_,hr4,fun w'=>Chg [] w w',fun _ h=>h,hS4.chg,⟨i+1,?_,by omega,?_,?_⟩,?_⟩
     · rw [wrap_i64 (by omega) (by omega)];rfl
     · rw [hpt];simp only [List.length_append];omega
     · rw [hpt];exact St.pop (M:=[_]) hS4
     · show n- (IntKind.wrap .i64 ((i:Int)+1)).toNat<n- ((i:Int)).toNat
       rw [wrap_i64 (by omega) (by omega)];omega
 · have hi':i=n:=by simp at h;omega
   rw [hi',←hln,List.take_length] at hS
   exact ⟨_,_,_,rfl,hS.iW (i:=0) rfl⟩

end Go.Proofs.YtpmhjnhgpplmnaaGreatDoor
end

section
namespace Go.Proofs.YtpmhjnhgpplmnaaGreatDoor
open Go Sx
set_option maxRecDepth 8000

end Go.Proofs.YtpmhjnhgpplmnaaGreatDoor
end

section
namespace Go.Proofs.YtpmhjnhgpplmnaaGreatDoor
open Go Sx
set_option maxRecDepth 8000

structure FrD where
 k:UInt8
 a:Option Addr
 c:Nat
 body:List UInt8
 at_:Nat
abbrev Frm:=UInt8×List UInt8×Nat
def FrD.t (x:FrD):Frm:=(x.k,x.body,x.at_)
def FrD.v (x:FrD):Value:=.slice x.a x.body.length x.c
section
variable {w0 w w':World} {X:List Nat} {M N N' T:List Res}

theorem E5 {a a':Option Addr} {n c k:Nat} {l:List UInt8} (hr:RdB w a n c l) (hs:iU 1 a k c a') (hk:k≤n):RdB w a' (n-k) (c-k) (l.drop k):=by
 have hl:=hr.bh
 have h1:=Rd.sub hr hs (hh:=n) hk (Nat.le_refl _) hr.le (Nat.le_refl _)
 have e2:((bv l).drop (k*1)).take ((n-k)*1)=bv (l.drop k):=by
   rw [Nat.mul_one,Nat.mul_one,List.take_of_length_le (by simp;omega),dc]
 rw [e2] at h1
 exact h1

end

end Go.Proofs.YtpmhjnhgpplmnaaGreatDoor
end

section
namespace Go.Proofs.YtpmhjnhgpplmnaaGreatDoor
open Go Go.Proofs.YtpmhjnhgpplmnaaGreatDoor.Sx
set_option maxRecDepth 100000
variable (w:World) (R:Ending→World→Prop)
theorem l8 (a:Option Addr) (b c:Nat) (d:Option Addr) (e f:Nat) (g:ByteArray) (h:Alz 39 w fun h i=>Buz 39 #[] i fun j=>Alz 39 i fun i k=>Stz 39 i 0 (.agg j) k fun j=>Cvz 9 26 (.string g) j fun g j k l=>Calls Tryz.prog 195 #[.slice a b c,.slice d e f,.slice g j k,.int .i64 32] l fun a b=>∃c d e f,a=.returned (.tuple #[.slice c d e,.int .i64 f])∧∃(a:Int→World→Prop) (e:Int→World→Nat),a 0 b∧∀b f,a b f→Ifz (decide (b<(32:Int))) (∃g h,c=some ⟨g,h,none⟩∧0≤b∧b<(d:Int)∧Lkz .u8 5 g (h+Int.toNat b*1) f fun c=>0≤b∧b<(32:Int)∧Stz 5 i (0+Int.toNat b*1) (.int .u8 c) f fun c=>a (IntKind.wrap .i64 (b+1)) c∧e (IntKind.wrap .i64 (b+1)) c<e b f) (Laz 39 i 0 f (fun a=>Stz 39 h 0 (.agg a) f fun a=>∃b,(loadVar 39 ⟨h,0,none⟩).run Tryz.prog a=.ok b a∧R (.returned b) a))):Calls Tryz.prog 97 #[.slice a b c,.slice d e f,.string g] w R:=aa 0x683c3b068138e1820032d20111a11a2c11a2981d2052072475ec06783c07c Tryz.func97 (by kernel_rfl) h
theorem kT (a:Array Value) (h:Bxz 39 (.agg a) w fun a b=>Alz 41 b fun b c=>Bsz 26 7 #[(0,.int .u8 97),(1,.int .u8 109),(2,.int .u8 112),(3,.int .u8 104),(4,.int .u8 111),(5,.int .u8 114),(6,.int .u8 97)] c fun c d e f=>Cvz 26 26 (.slice c d e) f fun c d e f=>∃g:World→Prop,g f.drew∧0≤(32:Int)∧(32:Int)≤32∧0≤(32:Int)∧(32:Int)≤32∧0≤(32:Int)∧(32:Int)≤32∧Caz 97 #[.slice c d e,.slice (some ⟨a,0,none⟩) 32 32,.string (ByteArray.mk #[99,105,112,104,101,114])] f.drew fun f h=>∃i:World→Prop,(∀a,i a→g a)∧i h∧Caz 97 #[.slice c d e,.slice (some ⟨a,0,none⟩) 32 32,.string (ByteArray.mk #[109,97,99])] h fun g h=>∃j:World→Prop,(∀a,j a→i a)∧j h∧Caz 97 #[.slice c d e,.slice (some ⟨a,0,none⟩) 32 32,.string (ByteArray.mk #[110,97,109,101])] h fun a c=>∃d:World→Prop,(∀a,d a→j a)∧d c∧∃e,(∀b,d b→(Instr.build 41 #[(0,.agg f),(1,.agg g),(2,.agg a)]).run Tryz.prog b=.ok (.agg e) b)∧Stz 41 b 0 (.agg e) c fun a=>∃c,(loadVar 41 ⟨b,0,none⟩).run Tryz.prog a=.ok c a∧R (.returned c) a):Calls Tryz.prog 33 #[.agg a] w R:=aa 0x11a1041a48193818184818548182467106164103161100152017575c077c Tryz.func33 (by kernel_rfl) h
theorem qy (a:Array Value) (b:Int) (c:Option Addr) (d e:Nat) (f:Option Addr) (g i:Nat) (j:Option Addr) (k l:Nat) (h:Bxz 41 (.agg a) w fun a h=>Alz 39 h fun h m=>0≤(32:Int)∧(32:Int)≤32∧Bsz 26 1 #[(0,.int .u8 b)] m.drew fun b m n o=>Bsz 24 4 #[(0,.slice b m n),(1,.slice c d e),(2,.slice f g i),(3,.slice j k l)] o fun b c d e=>Clz 163 #[.slice b c d] e fun b c d e=>Bsz 24 1 #[(0,.slice b c d)] e fun b c d e=>Caz 162 #[.slice (some ⟨a,32,none⟩) 32 32,.slice b c d] e fun a b=>Stz 39 h 0 (.agg a) b fun a=>∃b,(loadVar 39 ⟨h,0,none⟩).run Tryz.prog a=.ok b a∧R (.returned b) a):Calls Tryz.prog 202 #[.agg a,.int .u8 b,.slice c d e,.slice f g i,.slice j k l] w R:=aa 0x1c01041b48181a4721947181847274723465424261100142077c Tryz.func202 (by kernel_rfl) h
theorem rS (a:Array Value) (b:Option Addr) (c d:Nat) (h:Bxz 41 (.agg a) w fun a e=>Alz 87 e fun e f=>0≤(32:Int)∧(32:Int)≤32∧Bsz 26 5 #[(0,.int .u8 99),(1,.int .u8 104),(2,.int .u8 117),(3,.int .u8 110),(4,.int .u8 107)] f.drew fun f g h i=>Cvz 26 26 (.slice f g h) i fun f g h i=>Bsz 24 2 #[(0,.slice f g h),(1,.slice b c d)] i fun b c d f=>Clz 163 #[.slice b c d] f fun b c d f=>Bsz 24 1 #[(0,.slice b c d)] f fun b c d f=>Caz 162 #[.slice (some ⟨a,64,none⟩) 32 32,.slice b c d] f fun a b=>Stz 87 e 0 (.agg a) b fun a=>∃b,(loadVar 87 ⟨e,0,none⟩).run Tryz.prog a=.ok b a∧R (.returned b) a):Calls Tryz.prog 69 #[.agg a,.slice b c d] w R:=aa 0x1a010419481818472747186472547234722404161100142077c Tryz.func69 (by kernel_rfl) h
theorem nN (a:ByteArray) (b:Option Addr) (c d:Nat) (h:Alz 41 w fun e f=>Cvz 9 26 (.string a) f fun a f g h=>Caz 97 #[.slice b c d,.slice a f g,.string (ByteArray.mk #[107,101,121])] h fun a b=>Caz 33 #[.agg a] b fun a b=>Stz 41 e 0 (.agg a) b fun a=>∃b,(loadVar 41 ⟨e,0,none⟩).run Tryz.prog a=.ok b a∧R (.returned b) a):Calls Tryz.prog 152 #[.string a,.slice b c d] w R:=aa 0x681481475dc07c Tryz.func152 (by kernel_rfl) h
theorem mw (a:ByteArray) (b:Option Addr) (c d:Nat) (h:Alz 39 w fun e f=>Buz 39 #[] f fun g=>Alz 39 f fun f h=>Stz 39 f 0 (.agg g) h fun g=>Ifz (decide ((a.size:Int)<1)||decide ((a.size:Int)>1024)) (Laz 39 f 0 g (fun a=>Stz 39 e 0 (.agg a) g fun a=>∃b,(loadVar 39 ⟨e,0,none⟩).run Tryz.prog a=.ok b a∧R (.returned (.tuple #[b,.int .i64 28])) a)) (∃h:Bool→World→Prop,Ifz ((c:Int) != 101) (h true g) (0≤(8:Int)∧8≤(d:Int)∧∃a,(convert 26 9 (.slice b 8 d)).run Tryz.prog g=.ok (.string a) g∧h (!(a.toList==(ByteArray.mk #[97,109,112,104,111,114,97,49]).toList)) g)∧∀g i,h g i→Ifz g (Laz 39 f 0 i (fun a=>Stz 39 e 0 (.agg a) i fun a=>∃b,(loadVar 39 ⟨e,0,none⟩).run Tryz.prog a=.ok b a∧R (.returned (.tuple #[b,.int .i64 10])) a)) (0≤(8:Int)∧(8:Int)≤24∧24≤(d:Int)∧∀g,iU 1 b 8 d g→0≤(8:Int)∧(8:Int)≤24∧24≤(d:Int)∧∀h,iU 1 b 8 d h→0≤(24:Int)∧24≤(c:Int)∧(c:Int)≤(d:Int)∧∀j,iU 1 b 24 d j→Caz 152 #[.string a,.slice g 16 (d-8)] i.drew fun a b=>Calls Tryz.prog 151 #[.agg a,.int .u8 1,.slice h 16 (d-8),.slice j (c-24) (d-24)] b fun a b=>∃c d g h,a=.returned (.tuple #[.slice c d g,.int .i64 h])∧∃(a:Int→World→Prop) (g:Int→World→Nat),a 0 b∧∀b i,a b i→Ifz (decide (b<(d:Int))) (∃e h,c=some ⟨e,h,none⟩∧0≤b∧b<(d:Int)∧Lkz .u8 5 e (h+Int.toNat b*1) i fun c=>0≤b∧b<(32:Int)∧Stz 5 f (0+Int.toNat b*1) (.int .u8 c) i fun c=>a (IntKind.wrap .i64 (b+1)) c∧g (IntKind.wrap .i64 (b+1)) c<g b i) (Laz 39 f 0 i (fun a=>Stz 39 e 0 (.agg a) i fun a=>∃b,(loadVar 39 ⟨e,0,none⟩).run Tryz.prog a=.ok b a∧R (.returned (.tuple #[b,.int .i64 h])) a))))):Calls Tryz.prog 58 #[.string a,.slice b c d] w R:=aa 0x16183c3b068138e1820034d20111911c5a1192981d21e0101d1c1b1a19520728184818346710616510416211022420001683c30d53910522fc4214113c1192c1a220001683c303b42c206783c017c Tryz.func58 (by kernel_rfl) h
theorem pF (a:Array Value) (b:Int) (c:Option Addr) (d e:Nat) (f:Option Addr) (g i:Nat) (h:Bxz 41 (.agg a) w fun a h=>∃j:Bool→World→Prop,Ifz (decide (IntKind.wrap .i64 ((g:Int)-45)<(0:Int))) (j true h) (∃a c,f=some ⟨a,c,none⟩∧0≤(0:Int)∧0<(g:Int)∧Lkz .u8 5 a (c+Int.toNat (0:Int)*1) h fun a=>j (a != b) h)∧∀h k,j h k→Ifz h (R (.returned (.tuple #[.slice none 0 0,.int .i64 10])) k) (Buz 287 #[] k (fun h=>Alz 287 k fun j k=>Stz 287 j 0 (.agg h) k fun h=>∃(k:Int→World→Prop) (l:Int→World→Nat),k 0 h∧∀h m,k h m→Ifz (decide (h<(12:Int))) (∃a b,f=some ⟨a,b,none⟩∧0≤IntKind.wrap .i64 ((1:Int)+h)∧IntKind.wrap .i64 ((1:Int)+h)<(g:Int)∧Lkz .u8 5 a (b+Int.toNat (IntKind.wrap .i64 ((1:Int)+h))*1) m fun a=>0≤h∧h<(12:Int)∧Stz 5 j (0+Int.toNat h*1) (.int .u8 a) m fun a=>k (IntKind.wrap .i64 (h+1)) a∧l (IntKind.wrap .i64 (h+1)) a<l h m) (0≤(13:Int)∧(13:Int)≤IntKind.wrap .i64 ((13:Int)+IntKind.wrap .i64 ((g:Int)-45))∧IntKind.wrap .i64 ((13:Int)+IntKind.wrap .i64 ((g:Int)-45))≤(i:Int)∧∀h,iU 1 f 13 i h→∃k:World→Prop,k m.drew∧0≤(12:Int)∧(12:Int)≤12∧∃l,(∀b,k b→LdQ 41 a 0 (.agg l) b)∧Caz 202 #[.agg l,.int .u8 b,.slice c d e,.slice (some ⟨j,0,none⟩) 12 12,.slice h (Int.toNat (IntKind.wrap .i64 ((13:Int)+IntKind.wrap .i64 ((g:Int)-45)))-13) (i-13)] m.drew (fun b c=>∃d:World→Prop,(∀a,d a→k a)∧d c∧Alz 39 c fun c e=>∃k:World→Prop,(∀a,k a→d a)∧k e∧Stz 39 c 0 (.agg b) e fun b=>∃d:World→Prop,d b.drew∧0≤(32:Int)∧(32:Int)≤32∧0≤IntKind.wrap .i64 ((13:Int)+IntKind.wrap .i64 ((g:Int)-45))∧IntKind.wrap .i64 ((13:Int)+IntKind.wrap .i64 ((g:Int)-45))≤(g:Int)∧(g:Int)≤(i:Int)∧∀e,iU 1 f (Int.toNat (IntKind.wrap .i64 ((13:Int)+IntKind.wrap .i64 ((g:Int)-45)))) i e→∃f,(∀a,d a→(convert 26 9 (.slice (some ⟨c,0,none⟩) 32 32)).run Tryz.prog a=.ok (.string f) a)∧∃c,(∀a,d a→(convert 26 9 (.slice e (g-Int.toNat (IntKind.wrap .i64 ((13:Int)+IntKind.wrap .i64 ((g:Int)-45)))) (i-Int.toNat (IntKind.wrap .i64 ((13:Int)+IntKind.wrap .i64 ((g:Int)-45)))))).run Tryz.prog a=.ok (.string c) a)∧Ifz (!(f.toList==c.toList)) (R (.returned (.tuple #[.slice none 0 0,.int .i64 10])) b.drew) (Laz 39 a 0 b.drew (fun a=>Laz 287 j 0 b.drew fun c=>Calls Tryz.prog 201 #[.agg a,.agg c,.int .i64 0,.slice h (Int.toNat (IntKind.wrap .i64 ((13:Int)+IntKind.wrap .i64 ((g:Int)-45)))-13) (i-13)] b.drew fun a b=>∃c d e f,a=.returned (.tuple #[.slice c d e,.int .i64 f])∧R (.returned (.tuple #[.slice c d e,.int .i64 0])) b)))∧Alz 39 m.drew fun m n=>∃o:World→Prop,(∀a,o a→k a)∧o n∧Caz 202 #[.agg l,.int .u8 b,.slice c d e,.slice (some ⟨j,0,none⟩) 12 12,.slice h (Int.toNat (IntKind.wrap .i64 ((13:Int)+IntKind.wrap .i64 ((g:Int)-45)))-13) (i-13)] n fun b c=>∃d:World→Prop,(∀a,d a→o a)∧d c∧Stz 39 m 0 (.agg b) c fun b=>∃c:World→Prop,c b.drew∧0≤(32:Int)∧(32:Int)≤32∧0≤IntKind.wrap .i64 ((13:Int)+IntKind.wrap .i64 ((g:Int)-45))∧IntKind.wrap .i64 ((13:Int)+IntKind.wrap .i64 ((g:Int)-45))≤(g:Int)∧(g:Int)≤(i:Int)∧∀d,iU 1 f (Int.toNat (IntKind.wrap .i64 ((13:Int)+IntKind.wrap .i64 ((g:Int)-45)))) i d→∃e,(∀a,c a→(convert 26 9 (.slice (some ⟨m,0,none⟩) 32 32)).run Tryz.prog a=.ok (.string e) a)∧∃f,(∀a,c a→(convert 26 9 (.slice d (g-Int.toNat (IntKind.wrap .i64 ((13:Int)+IntKind.wrap .i64 ((g:Int)-45)))) (i-Int.toNat (IntKind.wrap .i64 ((13:Int)+IntKind.wrap .i64 ((g:Int)-45)))))).run Tryz.prog a=.ok (.string f) a)∧Ifz (!(e.toList==f.toList)) (R (.returned (.tuple #[.slice none 0 0,.int .i64 10])) b.drew) (Laz 39 a 0 b.drew (fun a=>Laz 287 j 0 b.drew fun c=>Calls Tryz.prog 201 #[.agg a,.agg c,.int .i64 0,.slice h (Int.toNat (IntKind.wrap .i64 ((13:Int)+IntKind.wrap .i64 ((g:Int)-45)))-13) (i-13)] b.drew fun a b=>∃c d e f,a=.returned (.tuple #[.slice c d e,.int .i64 f])∧R (.returned (.tuple #[.slice c d e,.int .i64 0])) b)))))):Calls Tryz.prog 151 #[.agg a,.int .u8 b,.slice c d e,.slice f g i] w R:=aa 0x3d0520724183831c002d3000715635136514323260152217104748185436047436481856803041631212252019ec3b068138421820032d20111c11b3e11c2981d206783c002d30e13810622ece14113c1192c1a224d0d7c Tryz.func151 (by kernel_rfl) h
end Go.Proofs.YtpmhjnhgpplmnaaGreatDoor
end

section
namespace Go.Proofs.YtpmhjnhgpplmnaaGreatDoor
open Go Sx
set_option maxRecDepth 8000

theorem OR (w:World):(Instr.build 39 #[]).run Tryz.prog w=.ok (.agg (bv (List.replicate 32 0)).toArray) w:=by
 have:=dx (P:=Tryz.prog) (w:=w) (T:=39) (dP w) Tryz.underlying39 (sB1 w) [] (by simp) (by simp)
 simpa using this

theorem qN (a0:Option Addr) (n0 c0:Nat) (salt:List UInt8) (a1:Option Addr) (n1 c1:Nat) (secret:List UInt8) (s:ByteArray) (info:List UInt8) (w:World) (hs:s=⟨info.toArray⟩) (hr0:RdB w a0 n0 c0 salt) (hr1:RdB w a1 n1 c1 secret) (hb:n0+n1+info.length≤1099511627776):
   Calls Tryz.prog 97 #[.slice a0 n0 c0,.slice a1 n1 c1,.string s] w fun e w'=>e=.returned (.agg (bv (jq salt secret info)).toArray)∧Chg [] w w':=by
 apply l8
 obtain ⟨D,hD⟩:∃D,jq salt secret info=D:=⟨_,rfl⟩
 have hDl:D.length=32:=by rw [←hD];simp
 obtain ⟨g6,w1,r1,h1⟩:=(St.start w).az dP
 obtain ⟨g7,w2,r2,h2⟩:=h1.az dP
 obtain ⟨w3,r3,h3⟩:=h2.stA (i:=1) (v:=bv (cB D (List.replicate 32 0) 0)) rfl (cz _) (by simp) (by rw [dN];simp) (aG _)
 rw [dN] at r3
 obtain ⟨g4,c4,w4,r4,hc4,hr4,_⟩:=ug s info hs w3
 have h4:=h3.same hc4
 refine ⟨g6,w1,r1,_,OR _,g7,w2,r2,w3,r3,_,_,_,_,r4,(zI a0 n0 c0 salt a1 n1 c1 secret _ info.length c4 info 32 w4 (h4.rd1 hr0) (h4.rd1 hr1) hr4 hb).mono ?_⟩
 rintro e w5 (⟨hx,_⟩ | ⟨_,_,a,n,c,rfl,hc5,hr5,hf5⟩)
 · omega
 have hd:iB salt secret info (Int.toNat 32)=jq salt secret info:=rfl
 rw [hd,hD] at hr5
 rw [hD]
 have hn:n=32:=by rw [←hr5.bh,hDl]
 subst hn
 have h5:=h4.same hc5
 have hg7:g7<w4.heap.size:=Res.lt (h4.holds 1 _ rfl) g7 (by simp [Res.fp])
 refine ⟨_,_,_,_,rfl,fun x w'=>∃i:Nat,x=(i:Int)∧i≤32∧RdB w' a 32 c D∧St w [] w' [.arr g6 39 (bv (List.replicate 32 0)),.arr g7 39 (bv (cB D (List.replicate 32 0) i))],fun x _=>32-x.toNat,⟨0,rfl,by omega,hr5,h5⟩,?_⟩
 rintro x w6 ⟨i,rfl,hi,hr6,h6⟩
 refine ⟨fun h=>?_,fun h=>?_⟩
 · have hi':i<32:=by simp at h;omega
   refine ix0 hr6.cells hDl i (by omega) fun bl o ha q=>⟨bl,o,ha,by omega,by omega,_,q w6 hr6.cells,by omega,by omega,?_⟩
   have hbi:D[i]?=some (D.getD i 0):=by
     rw [List.getD,List.getElem?_eq_getElem (by omega)]
     rfl
   have hml:(cB D (List.replicate 32 (0:UInt8)) i).length=32:=by simp [cB];omega
   have h6s:=h6.self
   obtain ⟨w7,r7,h7⟩:=h6.stB (i:=1) (o:=i) (T:=5) (b:=D.getD i 0) rfl (sB1 _) (show 0+Int.toNat (i:Int)*1=i by omega) (by omega)
   obtain ⟨w7',r7',h7'⟩:=(St.AH (h6.holds 1 _ rfl)).stB (i:=0) (o:=i) (T:=5) (l:=cB D (List.replicate 32 (0:UInt8)) i) (b:=D.getD i 0) rfl (sB1 _) (show 0+Int.toNat (i:Int)*1=i by omega) (by omega)
   have ew:w7'=w7:=by
     have:=r7'.symm.trans r7
     simp only [Result.ok.injEq,true_and] at this
     exact this
   rw [iE (by rw [hDl,List.length_replicate]) hbi] at h7
   refine ⟨w7,r7,⟨i+1,aq hi' (by omega),by omega,?_,h7⟩,aB hi' (by omega)⟩
   rw [ew] at h7'
   refine hr6.keep h7'.chg fun ad e=>?_
   have:=hf5 ad e
   simp
   omega
 · have hi':i=32:=by simp at h;omega
   have f1:cB D (List.replicate 32 (0:UInt8)) i=D:=by
     have:=iH (x:=D) (l:=List.replicate 32 (0:UInt8)) (by rw [hDl,List.length_replicate])
     rw [List.length_replicate] at this;rw [hi',this]
   rw [f1] at h6
   obtain ⟨w8,r8,h8⟩:=h6.stA (i:=0) (v:=bv D) rfl (cz _) (by simp) (by simp [hDl]) (aG _)
   exact ⟨_,h6.ldA (i:=1) rfl (jv _) (cz _) (by simp [hDl]),w8,r8,_,h8.bF (i:=0) (l:=bv D) rfl (jv _) (cz _) (by simp [hDl]),rfl,h8.chg⟩

theorem uW (m:List UInt8) (w:World) (hm:m.length=32):
   Calls Tryz.prog 33 #[.agg (bv m).toArray] w fun e w'=>e=.returned (.agg (bv (bw m)).toArray)∧Chg [] w w':=by
 apply kT
 obtain ⟨g1,w1,r1,h1⟩:=(St.start w).b7 39 (bv m)
 obtain ⟨g2,w2,r2,h2⟩:=h1.az kyZ
 obtain ⟨g3,w3,w4,r3,r4,c4,hr4⟩:=pQ oh (by decide) w2
 have h4:=(h2.same c4).drew
 have hd:=Chg.drew [] w4
 have dd:∀w' (i:List UInt8) (s:ByteArray),s=⟨i.toArray⟩→i.length≤1000→Chg [] w4.drew w'→Calls Tryz.prog 97 #[.slice (some ⟨g3,0,none⟩) 7 7,.slice (some ⟨g1,0,none⟩) 32 32,.string s] w' fun e w''=>e=.returned (.agg (bv (jq oh m i)).toArray)∧Chg [] w' w'':=fun w' i s hs hi hc=>
   qN _ 7 7 oh _ 32 32 m s i w' hs (hr4.an (hd.trans hc)) ((h4.same hc).rdA (i:=0) rfl (by simp [hm])) (by omega)
 refine ⟨g1,w1,r1,g2,w2,r2,_,_,_,_,r3,_,_,_,_,r4,fun w'=>Chg [] w4.drew w',Chg.refl _ _,by omega,by omega,by omega,by omega,by omega,by omega,(dd _ [99,105,112,104,101,114] _ rfl (by decide) (Chg.refl _ _)).mono ?_⟩
 rintro e w5 ⟨rfl,c5⟩
 refine ⟨_,rfl,fun w'=>Chg [] w4.drew w',fun _ h=>h,c5,(dd _ [109,97,99] _ rfl (by decide) c5).mono ?_⟩
 rintro e w6 ⟨rfl,c6⟩
 have d6:=c5.trans c6
 refine ⟨_,rfl,fun w'=>Chg [] w4.drew w',fun _ h=>h,d6,(dd _ [110,97,109,101] _ rfl (by decide) d6).mono ?_⟩
 rintro e w7 ⟨rfl,c7⟩
 have d7:=d6.trans c7
 obtain ⟨w8,r8,h8⟩:=(h4.same d7).stA (i:=1) (v:=bv (bw m)) rfl (kyS _) (by simp) (by simp) (aG _)
 exact ⟨_,rfl,fun w'=>Chg [] w4.drew w',fun _ h=>h,d7,_,fun w' _=>y3 (j0 _ _ _) (j0 _ _ _) (j0 _ _ _) w',w8,r8,_,h8.bF (i:=1) (l:=bv (bw m)) rfl (kyA _) (kyS _) (by simp),rfl,h8.chg⟩

theorem Jz (K:List UInt8) (a:Option Addr) (n c:Nat) (plain:List UInt8) (w:World) (hk:K.length=96) (hr:RdB w a n c plain) (hb:n≤67108000):
   Calls Tryz.prog 69 #[.agg (bv K).toArray,.slice a n c] w fun e w'=>e=.returned (.agg (bv (idF K plain)).toArray)∧Chg [] w w':=by
 have e2:=hr.bh
 apply rS
 obtain ⟨g1,w1,r1,h1⟩:=(St.start w).b7 41 (bv K)
 obtain ⟨g2,w2,r2,h2⟩:=h1.az idZ
 obtain ⟨g3,w3,w4,r3,r4,c4,q4⟩:=pQ [99,104,117,110,107] (by decide) w2.drew
 have h4:=h2.drew.same c4
 obtain ⟨g5,w5,r5,c5',q5,_⟩:=vl bbT [.slice (some ⟨g3,0,none⟩) 5 5,.slice a n c] (by simp [Value.oneCell']) (by simp) w4
 have h5:=h4.same c5'
 refine ⟨g1,w1,r1,g2,w2,r2,by omega,by omega,_,_,_,_,r3,_,_,_,_,r4,_,_,_,_,r5,(yM _ 2 2 _ [[99,104,117,110,107],plain] w5 q5 (oc (q4.an c5') (h5.rd1 hr)) (by simp;omega) (by simp)).mono ?_⟩
 rintro e w6 ⟨a6,n6,c6,rfl,hf6⟩
 have h6:=h5.same hf6.1
 obtain ⟨g7,w7,r7,c7',q7,_⟩:=vl bbT [.slice a6 n6 c6] (by simp [Value.oneCell']) (by simp) w6
 have h7:=h6.same c7'
 have hpl:(bN [[99,104,117,110,107],plain]).length≤67109864:=by
   have:=jd [[99,104,117,110,107],plain] (by simp;omega)
   simp at this ⊢
   omega
 refine ⟨_,_,_,rfl,_,_,_,_,r7,(pT _ 32 32 (lp K) _ 1 1 _ [bN [[99,104,117,110,107],plain]] w7 (s6 h7 (i:=0) rfl hk).2 (by omega) q7 (dU (hf6.rdB.an c7')) (by rw [List.flatten_cons,List.flatten_nil,List.append_nil];omega) (by decide)).mono ?_⟩
 rintro e w8 ⟨rfl,c8⟩
 have e1: [bN [[99,104,117,110,107],plain]].flatten=bN [[99,104,117,110,107],plain]:=by rw [List.flatten_cons,List.flatten_nil,List.append_nil]
 rw [e1]
 obtain ⟨w9,r9,h9⟩:=(h7.same c8).stA (i:=1) (v:=bv (idF K plain)) rfl (idS _) (by simp) (by simp [idF]) (aG _)
 exact ⟨_,rfl,w9,r9,_,h9.bF (i:=1) (l:=bv (idF K plain)) rfl (idA _) (idS _) (by simp [idF]),rfl,h9.chg⟩

end Go.Proofs.YtpmhjnhgpplmnaaGreatDoor
end

section
namespace Go.Proofs.YtpmhjnhgpplmnaaGreatDoor
open Go Sx
set_option maxRecDepth 8000

section
variable {w0 w w':World} {X:List Nat} {M N N' T:List Res}

def yZ (b:List UInt8) (r:bq):Bool:=decide (0≤r.at_)&&decide (0≤r.len)&&decide (r.at_≤(b.length:Int))&&decide (r.len≤(b.length:Int)-r.at_)
def Jg (b:List UInt8) (r:bq):List UInt8:=if yZ b r then (b.drop r.at_.toNat).take r.len.toNat else []

end

end Go.Proofs.YtpmhjnhgpplmnaaGreatDoor
end

section
namespace Go.Proofs.YtpmhjnhgpplmnaaGreatDoor
open Go.Shelf
def BL:Go.Shelf.Ren:=⟨fun | 171=>95 | 243=>194 | 246=>268 | 283=>319 | 284=>320 | 285=>321 | 286=>322 | 129=>274 | 317=>357 | 318=>358 | 319=>359 | 320=>360 | 337=>374 | 338=>375 | n=>n,fun | 3=>3 | 9=>9 | 2=>2 | 4=>4 | 171=>417 | 0=>0 | 53=>42 | 37=>26 | 5=>5 | 173=>419 | 212=>459 | 51=>370 | 20=>20 | 213=>460 | 46=>299 | 232=>39 | 233=>368 | n=>n,fun | 17=>3 | 18=>4 | 19=>5 | n=>n⟩
theorem JL:Go.Proofs.LaysM.n171 Tryz.prog BL:= {
 mixed:=by kernel_rfl
 f129:=Tryz.func274.trans (congrArg some (by kernel_rfl))
 f171:=Tryz.func95.trans (congrArg some (by kernel_rfl))
 f243:=Tryz.func194.trans (congrArg some (by kernel_rfl))
 f246:=Tryz.func268.trans (congrArg some (by kernel_rfl))
 f283:=Tryz.func319.trans (congrArg some (by kernel_rfl))
 f284:=Tryz.func320.trans (congrArg some (by kernel_rfl))
 f285:=Tryz.func321.trans (congrArg some (by kernel_rfl))
 f286:=Tryz.func322.trans (congrArg some (by kernel_rfl))
 f317:=Tryz.func357.trans (congrArg some (by kernel_rfl))
 f318:=Tryz.func358.trans (congrArg some (by kernel_rfl))
 f319:=Tryz.func359.trans (congrArg some (by kernel_rfl))
 f320:=Tryz.func360.trans (congrArg some (by kernel_rfl))
 f337:=Tryz.func374.trans (congrArg some (by kernel_rfl))
 f338:=Tryz.func375.trans (congrArg some (by kernel_rfl))
 t0:=Tryz.underlying0
 a0:=Tryz.isAgg0
 z0:=Tryz.sizeOf0
 v0:=Tryz.zeroValue0
 t2:=Tryz.underlying2
 a2:=Tryz.isAgg2
 z2:=Tryz.sizeOf2
 v2:=Tryz.zeroValue2
 t3:=Tryz.underlying3
 a3:=Tryz.isAgg3
 z3:=Tryz.sizeOf3
 v3:=Tryz.zeroValue3
 t4:=Tryz.underlying4
 a4:=Tryz.isAgg4
 z4:=Tryz.sizeOf4
 v4:=Tryz.zeroValue4
 t5:=Tryz.underlying5
 a5:=Tryz.isAgg5
 z5:=Tryz.sizeOf5
 v5:=Tryz.zeroValue5
 t9:=Tryz.underlying9
 a9:=Tryz.isAgg9
 z9:=Tryz.sizeOf9
 v9:=Tryz.zeroValue9
 t20:=Tryz.underlying20
 a20:=Tryz.isAgg20
 z20:=Tryz.sizeOf20
 v20:=Tryz.zeroValue20
 t37:=Tryz.underlying26
 a37:=Tryz.isAgg26
 z37:=Tryz.sizeOf26
 v37:=Tryz.zeroValue26
 t46:=Tryz.underlying299
 a46:=Tryz.isAgg299
 z46:=Tryz.sizeOf299
 v46:=Tryz.zeroValue299
 t51:=Tryz.underlying370
 a51:=Tryz.isAgg370
 z51:=Tryz.sizeOf370
 v51:=Tryz.zeroValue370
 t53:=Tryz.underlying42
 a53:=Tryz.isAgg42
 z53:=Tryz.sizeOf42
 v53:=Tryz.zeroValue42
 t171:=Tryz.underlying417
 a171:=Tryz.isAgg417
 z171:=Tryz.sizeOf417
 v171:=Tryz.zeroValue417
 t173:=Tryz.underlying419
 a173:=Tryz.isAgg419
 z173:=Tryz.sizeOf419
 v173:=Tryz.zeroValue419
 t212:=Tryz.underlying459
 a212:=Tryz.isAgg459
 z212:=Tryz.sizeOf459
 v212:=Tryz.zeroValue459
 t213:=Tryz.underlying460
 a213:=Tryz.isAgg460
 z213:=Tryz.sizeOf460
 t232:=Tryz.underlying39
 a232:=Tryz.isAgg39
 z232:=Tryz.sizeOf39
 v232:=Tryz.zeroValue39
 t233:=Tryz.underlying368
 a233:=Tryz.isAgg368
 z233:=Tryz.sizeOf368
 v233:=Tryz.zeroValue368
 g17:=by kernel_rfl
 g18:=by kernel_rfl
 g19:=by kernel_rfl
 i0:=by kernel_rfl
 i2:=by kernel_rfl
 i3:=by kernel_rfl
 i4:=by kernel_rfl
 i5:=by kernel_rfl
 i9:=by kernel_rfl
 i20:=by kernel_rfl
 i37:=by kernel_rfl
 i46:=by kernel_rfl
 i51:=by kernel_rfl
 i53:=by kernel_rfl
 i171:=by kernel_rfl
 i173:=by kernel_rfl
 i212:=by kernel_rfl
 i232:=by kernel_rfl
 i233:=by kernel_rfl
 m17:=by kernel_rfl
 m18:=by kernel_rfl
 m19:=by kernel_rfl }
end Go.Proofs.YtpmhjnhgpplmnaaGreatDoor
end

section
namespace Go.Proofs.YtpmhjnhgpplmnaaGreatDoor

def lexLt:List UInt8→List UInt8→Bool
 | [],[]=>false
 | [],_::_=>true
 | _::_,[]=>false
 | a::l,b::m=>if a.toNat<b.toNat then true else if b.toNat<a.toNat then false else lexLt l m
theorem lex_irrefl:∀l,lexLt l l=false
 | []=>rfl
 | a::l=>by simp [lexLt,lex_irrefl l]
theorem lex_trans:∀l m k,lexLt l m=true→lexLt m k=true→lexLt l k=true
 | [],[],_,h,_=>by simp [lexLt] at h
 | [],_::_,[],_,h=>by simp [lexLt] at h
 | [],_::_,_::_,_,_=>rfl
 | _::_,[],_,h,_=>by simp [lexLt] at h
 | _::_,_::_,[],_,h=>by simp [lexLt] at h
 | a::l,b::m,c::k,h1,h2=>by
   simp only [lexLt] at h1 h2 ⊢
   split at h1
   · split at h2
     · rw [if_pos (by omega)]
     · split at h2
       · cases h2
       · rw [if_pos (by omega)]
   · split at h1
     · cases h1
     · split at h2
       · rw [if_pos (by omega)]
       · split at h2
         · cases h2
         · rw [if_neg (by omega),if_neg (by omega)]
           exact lex_trans l m k h1 h2
theorem sC:∀l m,lexLt l m=false→lexLt m l=false→l=m
 | [],[],_,_=>rfl
 | [],_::_,h,_=>by simp [lexLt] at h
 | _::_,[],_,h=>by simp [lexLt] at h
 | a::l,b::m,h1,h2=>by
   simp only [lexLt] at h1 h2
   split at h1
   · cases h1
   · split at h2
     · cases h2
     · rename_i n1 n2
       rw [if_neg (by omega)] at h1
       have e:a=b:=UInt8.toNat_inj.1 (by omega)
       rw [e,sC l m h1 h2]
theorem lex_asymm {l m:List UInt8} (h:lexLt l m=true):lexLt m l=false:=by
 cases h2:lexLt m l with
 | false=>rfl
 | true=>have:=lex_trans l m l h h2;rw [lex_irrefl] at this;cases this
theorem gy {l m:List UInt8} (h:lexLt l m=true):l≠m:=fun e=>by subst e;rw [lex_irrefl] at h;cases h
def gP (l m:List UInt8):Int:=if lexLt l m then-1 else if lexLt m l then 1 else 0
theorem HH (l m:List UInt8):decide (gP l m<0)=lexLt l m:=by
 unfold gP
 cases h:lexLt l m<;>cases h2:lexLt m l<;>simp
def gU {α:Type} (key:α→List UInt8):List α→Prop:=List.Pairwise fun x y=>lexLt (key x) (key y)=true

theorem DI {α:Type} {key:α→List UInt8} :∀ {l m:List α},gU key l→gU key m→(∀x,x∈l↔x∈m)→l=m
 | [],[],_,_,_=>rfl
 | [],y::m,_,_,h=>by have:=(h y).2 (by simp);simp at this
 | x::l,[],_,_,h=>by have:=(h x).1 (by simp);simp at this
 | x::l,y::m,h1,h2,h=>by
   have a1:=List.pairwise_cons.1 h1
   have a2:=List.pairwise_cons.1 h2
   have e:x=y:=by
     have hx:=(h x).1 (by simp)
     have hy:=(h y).2 (by simp)
     rcases List.mem_cons.1 hx with e | hx
     · exact e
     · rcases List.mem_cons.1 hy with e | hy
       · exact e.symm
       · have c1:=a2.1 x hx
         have c2:=a1.1 y hy
         rw [lex_asymm c1] at c2
         cases c2
   subst e
   rw [DI a1.2 a2.2 fun z=>?_]
   have hz:=h z
   constructor
   · intro hm
     rcases List.mem_cons.1 (hz.1 (List.mem_cons_of_mem _ hm)) with e | hm'
     · subst e;exact absurd rfl (gy (a1.1 z hm))
     · exact hm'
   · intro hm
     rcases List.mem_cons.1 (hz.2 (List.mem_cons_of_mem _ hm)) with e | hm'
     · subst e;exact absurd rfl (gy (a2.1 z hm))
     · exact hm'

theorem uZ {α:Type} {key:α→List UInt8} {l:List α} (h:gU key l) {x y:α} (hx:x∈l) (hy:y∈l) (he:key x=key y):x=y:=by
 induction l with
 | nil=>simp at hx
 | cons z l ih=>
   have a:=List.pairwise_cons.1 h
   rcases List.mem_cons.1 hx with e1 | h1<;>rcases List.mem_cons.1 hy with e2 | h2
   · rw [e1,e2]
   · rw [e1] at he;exact absurd he (gy (a.1 y h2))
   · rw [e2] at he;exact absurd he.symm (gy (a.1 x h1))
   · exact ih a.2 h1 h2

theorem Ce:∀l m:List UInt8,Op.bytesLess l m=lexLt l m
 | [],[]=>rfl
 | _::_,[]=>rfl
 | [],_::_=>rfl
 | a::l,b::m=>by
   simp only [Op.bytesLess,lexLt,Ce l m]
   by_cases h1:a.toNat<b.toNat
   · have:a<b:=UInt8.lt_iff_toNat_lt.2 h1
     simp [h1,this]
   · have h2:¬a<b:=fun h=>h1 (UInt8.lt_iff_toNat_lt.1 h)
     by_cases h3:b.toNat<a.toNat
     · have:a≠b:=fun e=>by rw [e] at h3;omega
       simp [h1,h2,h3,this]
     · have:a=b:=UInt8.toNat_inj.1 (by omega)
       simp [h1,h2,h3,this]
namespace Sx
def aJ (l:List UInt8):Value:=.string ⟨l.toArray⟩
end Sx

end Go.Proofs.YtpmhjnhgpplmnaaGreatDoor
end

section
namespace Go.Proofs.YtpmhjnhgpplmnaaGreatDoor.Sx
open Go
set_option maxRecDepth 8000

structure bD {α:Type} (key val:α→Value) (es:Array MapEntry) (clock:Nat) (M:List α):Prop where
 Bl:es.toList.map (fun x=>(x.key,x.val))=M.map fun r=>(key r,val r)
 born:(es.toList.map (·.born)).Nodup
 old:∀x∈es.toList,x.born<clock

theorem bD.nil {α:Type} (key val:α→Value):bD key val #[] 0 ([]:List α):=⟨rfl,by simp,by simp⟩
theorem bD.len {α:Type} {key val:α→Value} {es:Array MapEntry} {clock:Nat} {M:List α} (h:bD key val es clock M):es.size=M.length:=by
 have:=congrArg List.length h.Bl
 simpa using this
theorem bD.at_ {α:Type} {key val:α→Value} {es:Array MapEntry} {clock:Nat} {M:List α} (h:bD key val es clock M) {i:Nat} {x:MapEntry} (hx:es.toList[i]?=some x):∃r,M[i]?=some r∧x.key=key r∧x.val=val r:=by
 have:=congrArg (fun l=>l[i]?) h.Bl
 simp only [List.getElem?_map,hx,Option.map_some] at this
 cases hm:M[i]? with
 | none=>rw [hm] at this;cases this
 | some r=>
   rw [hm] at this
   simp only [Option.map_some,Option.some.injEq,Prod.mk.injEq] at this
   exact ⟨r,rfl,this.1,this.2⟩

section
variable {P:Program} {α:Type} {key val:α→Value} {kid:α→List UInt8} {KT:TypeId} {kv:List UInt8→Value} {ok:List UInt8→Prop}

structure FX (P:Program) (KT:TypeId) (kv:List UInt8→Value) (ok:List UInt8→Prop):Prop where
 chk:∀id,ok id→∀(em:Bool) (w:World),(Instr.checkKey em 10000 KT (kv id)).run P w=.ok () w
 find:∀(α:Type) (val:α→Value) (kid:α→List UInt8) (L:List MapEntry) (M:List α) (id:List UInt8),ok id→∀w:World,L.map (fun x=>(x.key,x.val))=M.map (fun r=>(kv (kid r),val r))→(∀r∈M,ok (kid r))→
   (Instr.findKey KT (kv id) L).run P w=.ok (((M.findIdx? fun r=>kid r==id).bind fun j=>(M[j]?).map fun r=>(j,val r))) w
 stay:∀id,∀w:World,(Instr.keyThatStays (kv id) (kv id)).run P w=.ok (kv id) w

def dQ (kid:α→List UInt8) (M:List α) (id:List UInt8):Option (Nat×α):=(M.findIdx? fun r=>kid r==id).bind fun j=>(M[j]?).map fun r=>(j,r)
theorem fm {M:List α} {id:List UInt8} {j:Nat} {r:α} (h:dQ kid M id=some (j,r)):M[j]?=some r∧kid r=id:=by
 unfold dQ at h
 simp only [Option.bind_eq_some_iff,Option.map_eq_some_iff,Prod.mk.injEq] at h
 obtain ⟨j',h1,r',h2,rfl,rfl⟩:=h
 refine ⟨h2,?_⟩
 rw [List.findIdx?_eq_some_iff_getElem] at h1
 obtain ⟨hl,h3,_⟩:=h1
 rw [List.getElem?_eq_getElem hl,Option.some.injEq] at h2
 rw [h2] at h3
 simpa using h3
theorem kS {M:List α} {id:List UInt8} (h:dQ kid M id=none):∀r∈M,kid r≠id:=by
 intro r hr e
 unfold dQ at h
 cases hf:M.findIdx? fun r=>kid r==id with
 | none=>
   have:=List.findIdx?_eq_none_iff.1 hf r hr
   simp [e] at this
 | some j=>
   rw [hf] at h
   rw [List.findIdx?_eq_some_iff_getElem] at hf
   obtain ⟨hl,_⟩:=hf
   simp [List.getElem?_eq_getElem hl] at h

variable {w:World} {g:Nat} {es:Array MapEntry} {clock:Nat} {M:List α} {mt ET:TypeId}

structure HI (P:Program) (KT:TypeId) (kv:List UInt8→Value) (ok:List UInt8→Prop) (key:α→Value) (kid:α→List UInt8) (M:List α):Prop where
 ops:FX P KT kv ok
 key:∀r,key r=kv (kid r)
 len:∀r∈M,ok (kid r)

theorem bD.GM (hE:bD key val es clock M) (hK:HI P KT kv ok key kid M) {id:List UInt8} (hl:ok id) (w:World):(Instr.findKey KT (kv id) es.toList).run P w=.ok ((dQ kid M id).map fun p=>(p.1,val p.2)) w:=by
 have he:es.toList.map (fun x=>(x.key,x.val))=M.map (fun r=>(kv (kid r),val r)):=by
   rw [hE.Bl]
   refine List.map_congr_left fun r _=>?_
   rw [hK.key]
 rw [hK.ops.find α val kid es.toList M id hl w he hK.len]
 unfold dQ
 cases M.findIdx? fun r=>kid r==id with
 | none=>rfl
 | some j=>cases h:M[j]?<;>simp [h]

def wE (kid:α→List UInt8) (M:List α) (r:α):List α:=match dQ kid M (kid r) with
 | some (j,_)=>M.set j r
 | none=>M++ [r]

theorem bD.wM (hE:bD key val es clock M) (hK:HI P KT kv ok key kid M) (hm:P.underlying mt=some (.map KT ET)) (hg:w.heap[g]?=some (.map es clock)) (r:α) (hr:ok (kid r)):
   ∃es' clock',(Instr.mapUpdate mt (.map (some g)) (kv (kid r)) (val r)).run P w=.ok () (w.putObj g (.map es' clock'))∧bD key val es' clock' (wE kid M r):=by
 have hf:=hE.GM hK hr w
 have hc:=hK.ops.chk _ hr false w
 have hset:∀o:Obj,(setObj g o).run P w=.ok () (w.putObj g o):=fun o=>by simp [setObj,Sem.run,hg,World.putObj]
 unfold wE
 cases h:dQ kid M (kid r) with
 | none=>
   rw [h] at hf
   refine ⟨es.push { key:=kv (kid r),val:=val r,born:=clock },clock+1,?_,?_⟩
   · simp only [Instr.mapUpdate,getObj,Sem.run_bind,run_underlying hm,Result.andThen_ok,Sem.run,hg,Result.andThen,hc,hf,Option.map_none]
     exact hset _
   · refine ⟨?_,?_,?_⟩
     · rw [Array.toList_push,List.map_append,List.map_append,hE.Bl]
       simp [hK.key]
     · rw [Array.toList_push,List.map_append,List.nodup_append]
       refine ⟨hE.born,by simp,?_⟩
       intro a ha b hb
       simp only [List.map_cons,List.map_nil,List.mem_singleton] at hb
       obtain ⟨x,hx,rfl⟩:=List.mem_map.1 ha
       have:=hE.old x hx
       omega
     · intro x hx
       rw [Array.toList_push,List.mem_append,List.mem_singleton] at hx
       rcases hx with hx | rfl
       · have:=hE.old x hx;omega
       · show clock<clock+1;omega
 | some p=>
   obtain ⟨j,s⟩:=p
   rw [h] at hf
   obtain ⟨hj,hs⟩:=fm h
   have hjl:j<M.length:=(List.getElem?_eq_some_iff.1 hj).1
   have hsz:=hE.len
   have hx:es.toList[j]?=some es[j]:=by simp [show j<es.size by omega]
   obtain ⟨s',h1,h2,h3⟩:=hE.at_ hx
   rw [hj,Option.some.injEq] at h1
   subst h1
   refine ⟨es.modify j fun e=> { e with key:=kv (kid r),val:=val r },clock,?_,?_⟩
   · have hk:(((es[j]?).map (·.key)).getD (kv (kid r)))=kv (kid r):=by
       rw [Array.getElem?_eq_getElem (by omega)]
       simp only [Option.map_some,Option.getD_some]
       rw [h2,hK.key,hs]
     have hst:(Instr.keyThatStays (kv (kid r)) (kv (kid r))).run P w=.ok (kv (kid r)) w:=by
       exact hK.ops.stay _ w
     simp only [Instr.mapUpdate,getObj,Sem.run_bind,run_underlying hm,Result.andThen_ok,Sem.run,hg,Result.andThen,hc,hf,Option.map_some,hk,hst]
     exact hset _
   · have hl:(es.modify j fun e=> { e with key:=kv (kid r),val:=val r }).toList=es.toList.modify j fun e=> { e with key:=kv (kid r),val:=val r } :=Array.toList_modify ..
     refine ⟨?_,?_,?_⟩
     · rw [hl]
       apply List.ext_getElem?
       intro i
       have:=congrArg (fun l=>l[i]?) hE.Bl
       simp only [List.getElem?_map] at this
       rw [List.getElem?_map,List.getElem?_modify,List.getElem?_map,List.getElem?_set]
       by_cases hi:j=i
       · subst hi
         rw [hx]
         simp [hjl,hK.key]
       · simp only [if_neg hi]
         cases hq:es.toList[i]?<;>rw [hq] at this<;>simpa using this
     · rw [hl]
       have:(es.toList.modify j fun e=> { e with key:=kv (kid r),val:=val r }).map (·.born)=es.toList.map (·.born):=by
         apply List.ext_getElem?
         intro i
         rw [List.getElem?_map,List.getElem?_modify,List.getElem?_map]
         by_cases hi:j=i
         · subst hi;rw [hx];simp
         · simp only [if_neg hi];cases es.toList[i]?<;>rfl
       rw [this]
       exact hE.born
     · intro x hxm
       rw [hl] at hxm
       obtain ⟨i,hi⟩:=List.getElem?_of_mem hxm
       rw [List.getElem?_modify] at hi
       by_cases hji:j=i
       · subst hji
         rw [hx] at hi
         simp at hi
         subst hi
         exact hE.old es[j] (by simp)
       · simp only [if_neg hji] at hi
         cases hq:es.toList[i]? with
         | none=>rw [hq] at hi;simp at hi
         | some y=>rw [hq] at hi;simp at hi;subst hi;exact hE.old y (List.mem_of_getElem? hq)

theorem bD.GD (hE:bD key val es clock M) (hK:HI P KT kv ok key kid M) (hm:P.underlying mt=some (.map KT ET)) (hg:w.heap[g]?=some (.map es clock)) {id:List UInt8} (hl:ok id) (ts:Array TypeId) (hts:ts[0]?=some mt) (ty:TypeId):
   ∃es',(Builtin.delete_ ts ty #[.map (some g),kv id]).run P w=.ok (.tuple #[]) (w.putObj g (.map es' clock))∧(∀j r,dQ kid M id=some (j,r)→es'=es.eraseIdxIfInBounds j∧bD key val es' clock (M.eraseIdx j))∧(dQ kid M id=none→es'=es∧bD key val es' clock M):=by
 have hf:=hE.GM hK hl w
 have hc:=hK.ops.chk _ hl es.isEmpty w
 have hset:∀o:Obj,(setObj g o).run P w=.ok () (w.putObj g o):=fun o=>by simp [setObj,Sem.run,hg,World.putObj]
 cases h:dQ kid M id with
 | none=>
   rw [h] at hf
   refine ⟨es,?_,by simp,fun _=>⟨rfl,hE⟩⟩
   simp [Builtin.delete_,getObj,hts,run_underlying hm,Sem.run,hg,Result.andThen,hc,hf,hset]
 | some p=>
   obtain ⟨j,s⟩:=p
   rw [h] at hf
   obtain ⟨hj,hs⟩:=fm h
   have hjl:j<M.length:=(List.getElem?_eq_some_iff.1 hj).1
   have hsz:=hE.len
   refine ⟨es.eraseIdxIfInBounds j,?_,?_,by simp⟩
   · simp [Builtin.delete_,getObj,hts,run_underlying hm,Sem.run,hg,Result.andThen,hc,hf,hset]
   · rintro j' r' h'
     simp only [Option.some.injEq,Prod.mk.injEq] at h'
     obtain ⟨rfl,rfl⟩:=h'
     have hle:(es.eraseIdxIfInBounds j).toList=es.toList.eraseIdx j:=by simp [Array.eraseIdxIfInBounds,show j<es.size by omega]
     refine ⟨rfl,?_,?_,?_⟩
     · rw [hle,Go.ChangeMaps.map_eraseIdx,Go.ChangeMaps.map_eraseIdx,hE.Bl]
     · rw [hle,Go.ChangeMaps.map_eraseIdx]
       exact hE.born.sublist (List.eraseIdx_sublist _ _)
     · intro x hx
       rw [hle] at hx
       exact hE.old x ((List.eraseIdx_sublist _ _).subset hx)

theorem bD.BF (hE:bD key val es clock M) (hK:HI P KT kv ok key kid M) (hm:P.underlying mt=some (.map KT ET)) (hg:w.heap[g]?=some (.map es clock)) {id:List UInt8} (hl:ok id) {z:Value} (hz:∀w,(zeroValue ET).run P w=.ok z w):
   (Instr.lookup mt (.map (some g)) (kv id) true).run P w=.ok (.tuple #[((dQ kid M id).map fun p=>val p.2).getD z,.bool (dQ kid M id).isSome]) w:=by
 have hf:=hE.GM hK hl w
 have hc:=hK.ops.chk _ hl es.isEmpty w
 cases h:dQ kid M id with
 | none=>
   rw [h] at hf
   simp [Instr.lookup,getObj,run_underlying hm,Sem.run,hg,Result.andThen,hc,hf,hz]
 | some p=>
   rw [h] at hf
   simp [Instr.lookup,getObj,run_underlying hm,Sem.run,hg,Result.andThen,hc,hf]

theorem bD.lenOf (hE:bD key val es clock M) (hm:P.underlying mt=some (.map KT ET)) (hg:w.heap[g]?=some (.map es clock)) (ty:TypeId):(Builtin.len_ #[mt] ty #[.map (some g)]).run P w=.ok (.int .i64 (M.length:Int)) w:=by
 have:=hE.len
 simp [Builtin.len_,getObj,run_underlying hm,Sem.run,hg,Result.andThen,goInt,this]
end

end Go.Proofs.YtpmhjnhgpplmnaaGreatDoor.Sx
end

section
namespace Go.Proofs.YtpmhjnhgpplmnaaGreatDoor
open Go Sx
set_option maxRecDepth 8000

section
variable {α:Type} (kid:α→List UInt8)
def eD (S:List α) (r:α):List α:=S.filter (fun s=>lexLt (kid s) (kid r))++r::S.filter (fun s=>lexLt (kid r) (kid s))
def eT (S:List α) (id:List UInt8):List α:=S.filter fun s=> !decide (kid s=id)
def dr (S:List α) (id:List UInt8):Option α:=S.find? fun r=>kid r==id
end

section
variable {α:Type} {kid:α→List UInt8} {S M:List α}

theorem Ik {l m:List UInt8} (h:l≠m):lexLt l m=true∨lexLt m l=true:=by
 cases h1:lexLt l m with
 | true=>exact .inl rfl
 | false=>
   cases h2:lexLt m l with
   | true=>exact .inr rfl
   | false=>exact absurd (sC _ _ h1 h2) h

theorem kI {x r:α} :x∈eD kid S r↔x=r∨(x∈S∧kid x≠kid r):=by
 unfold eD
 simp only [List.mem_append,List.mem_cons,List.mem_filter]
 constructor
 · rintro (⟨h1,h2⟩ | rfl | ⟨h1,h2⟩)
   · exact .inr ⟨h1,gy h2⟩
   · exact .inl rfl
   · exact .inr ⟨h1,(gy h2).symm⟩
 · rintro (rfl | ⟨h1,h2⟩)
   · exact .inr (.inl rfl)
   · rcases Ik h2 with h | h
     · exact .inl ⟨h1,h⟩
     · exact .inr (.inr ⟨h1,h⟩)
theorem lP {x:α} {id:List UInt8} :x∈eT kid S id↔x∈S∧kid x≠id:=by simp [eT]
theorem oa (h:gU kid S) (r:α):gU kid (eD kid S r):=by
 unfold eD gU
 refine List.pairwise_append.2 ⟨h.sublist List.filter_sublist,List.pairwise_cons.2 ⟨fun x hx=>(List.mem_filter.1 hx).2,h.sublist List.filter_sublist⟩,fun x hx y hy=>?_⟩
 have h1:=(List.mem_filter.1 hx).2
 rcases List.mem_cons.1 hy with rfl | hy
 · exact h1
 · exact lex_trans _ _ _ h1 (List.mem_filter.1 hy).2
theorem nT (h:gU kid S) (id:List UInt8):gU kid (eT kid S id):=h.sublist List.filter_sublist
theorem BU (h:gU kid S):S.Pairwise fun x y=>kid x≠kid y:=h.imp fun h=>gy h

theorem eE {id:List UInt8} {r:α} (h:dr kid S id=some r):r∈S∧kid r=id:=⟨List.mem_of_find?_eq_some h,by simpa using List.find?_some h⟩
theorem xX {id:List UInt8} (h:dr kid S id=none):∀r∈S,kid r≠id:=by
 intro r hr
 rw [dr,List.find?_eq_none] at h
 simpa using h r hr
theorem mg (h:gU kid S) {r:α} :dr kid S (kid r)=some r↔r∈S:=by
 constructor
 · exact fun hf=>(eE hf).1
 · intro hr
   cases hq:dr kid S (kid r) with
   | none=>exact absurd rfl (xX hq r hr)
   | some z=>
     obtain ⟨h1,h2⟩:=eE hq
     rw [uZ h h1 hr h2]
theorem gO (h:gU kid S) (r:α) (id:List UInt8):dr kid (eD kid S r) id=if kid r=id then some r else dr kid S id:=by
 by_cases e:kid r=id
 · rw [if_pos e,←e]
   exact (mg (oa h r)).2 (kI.2 (.inl rfl))
 · rw [if_neg e]
   cases hq:dr kid S id with
   | some z=>
     obtain ⟨h1,h2⟩:=eE hq
     rw [←h2]
     exact (mg (oa h r)).2 (kI.2 (.inr ⟨h1,fun e2=>e (e2.symm.trans h2)⟩))
   | none=>
     cases hz:dr kid (eD kid S r) id with
     | none=>rfl
     | some z=>
       obtain ⟨h1,h2⟩:=eE hz
       rcases kI.1 h1 with rfl | ⟨h3,_⟩
       · exact absurd h2 e
       · exact absurd h2 (xX hq z h3)
theorem wR (id id2:List UInt8):dr kid (eT kid S id) id2=if id=id2 then none else dr kid S id2:=by
 unfold dr eT
 rw [List.find?_filter]
 by_cases e:id=id2
 · rw [if_pos e,List.find?_eq_none]
   intro x _
   subst e
   by_cases h:kid x=id<;>simp [h]
 · rw [if_neg e]
   congr 1
   funext x
   by_cases h:kid x=id2
   · have:¬kid x=id:=fun e2=>e (e2.symm.trans h)
     have e':¬id2=id:=fun e2=>e e2.symm
     simp [h,e']
   · simp [h]
theorem xV (S:List α) (r:α):(eD kid S r).length≤S.length+1:=by
 have key:∀T:List α,(T.filter fun s=>lexLt (kid s) (kid r)).length+(T.filter fun s=>lexLt (kid r) (kid s)).length≤T.length:=by
   intro T
   induction T with
   | nil=>simp
   | cons x T ih=>
     cases h1:lexLt (kid x) (kid r) with
     | true=>
       have h2:=lex_asymm h1
       simp [List.filter_cons,h1,h2];omega
     | false=>cases h2:lexLt (kid r) (kid x)<;>simp [List.filter_cons,h1,h2]<;>omega
 have:=key S
 simp only [eD,List.length_append,List.length_cons]
 omega
theorem CT {S:List α} (hS:gU kid S) {r:α} (h:dr kid S (kid r)≠none):(eD kid S r).length≤S.length:=by
 obtain ⟨y,hy⟩:∃y,dr kid S (kid r)=some y:=by
   cases hq:dr kid S (kid r) with
   | none=>exact absurd hq h
   | some y=>exact ⟨y,rfl⟩
 obtain ⟨h1,h2⟩:=eE hy
 obtain ⟨A,B,rfl⟩:=List.append_of_mem h1
 have hp:=List.pairwise_append.1 hS
 have hA:A.filter (fun s=>lexLt (kid r) (kid s))=[]:=List.filter_eq_nil_iff.2 fun x hx=>by
   have:=hp.2.2 x hx y (by simp)
   rw [h2] at this
   rw [lex_asymm this];simp
 have hB:B.filter (fun s=>lexLt (kid s) (kid r))=[]:=List.filter_eq_nil_iff.2 fun x hx=>by
   have:=(List.pairwise_cons.1 hp.2.1).1 x hx
   rw [h2] at this
   rw [lex_asymm this];simp
 have l1:=List.length_filter_le (fun s=>lexLt (kid s) (kid r)) A
 have l2:=List.length_filter_le (fun s=>lexLt (kid r) (kid s)) B
 simp only [eD,List.filter_append,List.filter_cons,hA,hB,h2,lex_irrefl,List.length_append,List.length_cons,List.nil_append,List.append_nil,Bool.false_eq_true,if_false]
 omega
theorem Er (S:List α) (id:List UInt8):(eT kid S id).length≤S.length:=List.length_filter_le _ _
theorem vu {S:List α} {id:List UInt8} {y:α} (h:dr kid S id=some y):(eT kid S id).length+1≤S.length:=by
 obtain ⟨h1,h2⟩:=eE h
 obtain ⟨A,B,rfl⟩:=List.append_of_mem h1
 have l1:=List.length_filter_le (fun s=> !decide (kid s=id)) A
 have l2:=List.length_filter_le (fun s=> !decide (kid s=id)) B
 simp only [eT,List.filter_append,List.filter_cons,h2,List.length_append,List.length_cons,decide_true,Bool.not_true,Bool.false_eq_true,if_false]
 omega

structure dB (kid:α→List UInt8) (M S:List α):Prop where
 perm:M.Perm S
 asc:gU kid S
theorem dB.nil:dB kid [] []:=⟨List.Perm.refl _,List.Pairwise.nil⟩

theorem J7 (hp:M.Perm S) (hS:gU kid S) (id:List UInt8):(dQ kid M id).map (·.2)=dr kid S id:=by
 cases hf:dQ kid M id with
 | none=>
   have hn:=kS hf
   symm
   rw [Option.map_none,dr,List.find?_eq_none]
   intro r hr
   have:=hn r (hp.mem_iff.2 hr)
   simpa using this
 | some p=>
   obtain ⟨j,y⟩:=p
   obtain ⟨hj,hy⟩:=fm hf
   have hyS:y∈S:=hp.mem_iff.1 (List.mem_of_getElem? hj)
   rw [Option.map_some,←hy]
   exact ((mg hS).2 hyS).symm
theorem dB.find (h:dB kid M S) (id:List UInt8):(dQ kid M id).map (·.2)=dr kid S id:=J7 h.perm h.asc id

theorem tA {M:List α} {j:Nat} {y:α} (hj:M[j]?=some y):M=M.take j++y::M.drop (j+1)∧(∀r,M.set j r=M.take j++r::M.drop (j+1))∧M.eraseIdx j=M.take j++M.drop (j+1):=by
 obtain ⟨hl,e⟩:=List.getElem?_eq_some_iff.1 hj
 refine ⟨?_,fun r=>?_,List.eraseIdx_eq_take_drop_succ ..⟩
 · rw [←e,←List.drop_eq_getElem_cons hl,List.take_append_drop]
 · rw [List.set_eq_take_append_cons_drop,if_pos hl]

theorem dB.nd (h:dB kid M S):M.Pairwise fun x y=>kid x≠kid y:=(BU h.asc).perm h.perm.symm fun h=>h.symm

theorem lu {M:List α} (h:M.Pairwise fun x y=>kid x≠kid y):M.Nodup:=h.imp fun h e=>h (by rw [e])

theorem dB.upd (h:dB kid M S) (r:α):dB kid (wE kid M r) (eD kid S r):=by
 refine ⟨?_,oa h.asc r⟩
 have hnd:(wE kid M r).Pairwise fun x y=>kid x≠kid y:=by
   unfold wE
   cases hf:dQ kid M (kid r) with
   | none=>
     have hn:=kS hf
     exact List.pairwise_append.2 ⟨h.nd,by simp,fun x hx y hy=>by simp at hy;rw [hy];exact hn x hx⟩
   | some p=>
     obtain ⟨j,y⟩:=p
     obtain ⟨hj,hy⟩:=fm hf
     obtain ⟨h1,h2,_⟩:=tA hj
     have hM:=h.nd
     rw [h1] at hM
     show (M.set j r).Pairwise _
     rw [h2]
     have hp:=List.pairwise_append.1 hM
     have hc:=List.pairwise_cons.1 hp.2.1
     refine List.pairwise_append.2 ⟨hp.1,List.pairwise_cons.2 ⟨fun x hx=>by rw [←hy];exact hc.1 x hx,hc.2⟩,fun x hx z hz=>?_⟩
     rcases List.mem_cons.1 hz with rfl | hz
     · rw [←hy];exact hp.2.2 x hx y (by simp)
     · exact hp.2.2 x hx z (by simp [hz])
 refine (List.perm_ext_iff_of_nodup (lu hnd) (lu (BU (oa h.asc r)))).2 fun x=>?_
 rw [kI,←h.perm.mem_iff]
 unfold wE
 cases hf:dQ kid M (kid r) with
 | none=>
   have hn:=kS hf
   show x∈M++ [r]↔_
   rw [List.mem_append,List.mem_singleton]
   constructor
   · rintro (h1 | rfl)
     · exact .inr ⟨h1,hn x h1⟩
     · exact .inl rfl
   · rintro (rfl | ⟨h1,_⟩)
     · exact .inr rfl
     · exact .inl h1
 | some p=>
   obtain ⟨j,y⟩:=p
   obtain ⟨hj,hy⟩:=fm hf
   obtain ⟨h1,h2,_⟩:=tA hj
   show x∈M.set j r↔_
   rw [h2]
   have hM:=h.nd
   rw [h1] at hM
   have hp:=List.pairwise_append.1 hM
   have hc:=List.pairwise_cons.1 hp.2.1
   constructor
   · intro hx
     rcases List.mem_append.1 hx with hx | hx
     · refine .inr ⟨by rw [h1];simp [hx],?_⟩
       rw [←hy];exact hp.2.2 x hx y (by simp)
     · rcases List.mem_cons.1 hx with rfl | hx
       · exact .inl rfl
       · refine .inr ⟨by rw [h1];simp [hx],?_⟩
         rw [←hy];exact (hc.1 x hx).symm
   · rintro (rfl | ⟨hx,hne⟩)
     · simp
     · rw [h1] at hx
       rcases List.mem_append.1 hx with hx | hx
       · simp [hx]
       · rcases List.mem_cons.1 hx with rfl | hx
         · exact absurd hy hne
         · simp [hx]

theorem dB.del (h:dB kid M S) {id:List UInt8} {j:Nat} {y:α} (hf:dQ kid M id=some (j,y)):dB kid (M.eraseIdx j) (eT kid S id):=by
 obtain ⟨hj,hy⟩:=fm hf
 obtain ⟨h1,_,h3⟩:=tA hj
 refine ⟨?_,nT h.asc id⟩
 have hM:=h.nd
 refine (List.perm_ext_iff_of_nodup (lu (hM.sublist (List.eraseIdx_sublist _ _))) (lu (BU (nT h.asc id)))).2 fun x=>?_
 rw [lP,←h.perm.mem_iff,h3]
 rw [h1] at hM
 have hp:=List.pairwise_append.1 hM
 have hc:=List.pairwise_cons.1 hp.2.1
 constructor
 · intro hx
   rcases List.mem_append.1 hx with hx | hx
   · refine ⟨by rw [h1];simp [hx],?_⟩
     rw [←hy];exact hp.2.2 x hx y (by simp)
   · refine ⟨by rw [h1];simp [hx],?_⟩
     rw [←hy];exact (hc.1 x hx).symm
 · rintro ⟨hx,hne⟩
   rw [h1] at hx
   rcases List.mem_append.1 hx with hx | hx
   · simp [hx]
   · rcases List.mem_cons.1 hx with rfl | hx
     · exact absurd hy hne
     · simp [hx]
theorem bD.congr {key val val':α→Value} {es:Array MapEntry} {ck:Nat} (h:bD key val es ck M) (hv:∀r∈M,val r=val' r):bD key val' es ck M:=by
 refine ⟨?_,h.born,h.old⟩
 rw [h.Bl]
 exact List.map_congr_left fun r hr=>by rw [hv r hr]
end

end Go.Proofs.YtpmhjnhgpplmnaaGreatDoor
end

section
namespace Go.Proofs.YtpmhjnhgpplmnaaGreatDoor
open Go Sx
set_option maxRecDepth 8000

abbrev Nm:=List UInt8
structure Ent where
 name:Nm
 file:Nat
abbrev Dir:=List Ent
structure ChM where
 made:Option Nat
 fr:Nm
 to:Nm
structure cg where
 data:List UInt8
 syn:Nat
structure af where
 size:Int
 files:List cg
 now:Dir
 syn:Dir
 chs:List ChM
 steps:Nat
 down:Bool
 arm:Option Nat
 bW:List Nat

def qH (b:UInt8):Bool:=decide (33≤b.toNat)&&decide (b.toNat≤126)&& !decide (b.toNat=47)
def cN (l:Nm):Bool:=decide (0<l.length)&&decide (l.length≤64)&&l.all qH

abbrev findD (d:Dir) (n:Nm):Option Ent:=dr Ent.name d n
def mkD (d:Dir) (c:ChM):Dir:=match c.made with
 | some i=>eD Ent.name d ⟨c.to,i⟩
 | none=>match findD d c.fr with
   | none=>d
   | some e=>if c.to=[] then eT Ent.name d c.fr else eD Ent.name (eT Ent.name d c.fr) ⟨c.to,e.file⟩
def replay (d:Dir) (cs:List ChM):Dir:=cs.foldl mkD d
theorem oB (d:Dir) (cs:List ChM) (c:ChM):replay d (cs++ [c])=mkD (replay d cs) c:=by simp [replay]

def iP:cg:=⟨[],0⟩
def fileAt (fs:List cg) (i:Nat):cg:=fs.getD i iP
def kB (m:af):Nat:=(m.now.map fun e=>(fileAt m.files e.file).data.length).sum
def gD (fs:List cg) (i:Nat) (f:cg→cg):List cg:=fs.set i (f (fileAt fs i))

def bp (m:af):af×Option Int:=
 if m.arm=some 0 then ({ m with down:=true },some 1)
 else match m.bW with
   | []=>({ m with steps:=m.steps+1,arm:=m.arm.map (· -1) },none)
   | 0::r=>({ m with steps:=m.steps+1,arm:=m.arm.map (· -1),bW:=r },some 2)
   | (k+1)::r=>({ m with steps:=m.steps+1,arm:=m.arm.map (· -1),bW:=k::r },none)
def fP (m:af) (ns:List Nm):Option Int:=if m.down then some 1 else if ns.all cN then none else some 6
def bX (m:af) (n:Nm):Option Int:=if m.down then some 1 else if !cN n then some 6 else if (findD m.now n).isNone then some 5 else none
def cI (m:af) (n:Nm):Nat:=((findD m.now n).map (·.file)).getD 0

def aU (m:af) (f:af→af):af×Option Int:=match (bp m).2 with
 | some e=>((bp m).1,some e)
 | none=>(f (bp m).1,none)
def gx (m:af) (n:Nm):ChM:=⟨some m.files.length,[],n⟩
def iS (m:af) (c:ChM):af:= { m with now:=mkD m.now c,chs:=m.chs++ [c] }
def iG (m:af) (n:Nm):af:= { iS m (gx m n) with files:=m.files++ [iP] }
def aM (m:af) (n:Nm):af×Option Int:=match fP m [n] with
 | some e=>(m,some e)
 | none=>if (findD m.now n).isSome then (m,some 4) else if 4096≤m.now.length then (m,some 19) else aU m fun m=>iG m n
def fits:Int→List (List UInt8)→Bool
 | _,[]=>true
 | r,p::ps=>decide ((p.length:Int)≤r)&&fits (r-p.length) ps
def bI (m:af) (i:Nat) (ps:List (List UInt8)):af:= { m with files:=gD m.files i fun f=>⟨f.data++ps.flatten,f.syn⟩ }
def aO (m:af) (n:Nm) (ps:List (List UInt8)):af×Option Int:=match bX m n with
 | some e=>(m,some e)
 | none=>if fits (m.size-kB m) ps then aU m fun m'=>bI m' (cI m n) ps else (m,some 3)
def kL (m:af) (i:Nat):af:= { m with files:=gD m.files i fun f=>⟨f.data,f.data.length⟩ }
def cV (m:af) (n:Nm):af×Option Int:=match bX m n with
 | some e=>(m,some e)
 | none=>aU m fun m'=>kL m' (cI m n)
def fO (m:af):af:= { m with syn:=m.now,chs:=[] }
def aK (m:af):af×Option Int:=match fP m [] with
 | some e=>(m,some e)
 | none=>aU m fO
def ey (m:af) (a b:Nm):af×Option Int:=match fP m [a,b] with
 | some e=>(m,some e)
 | none=>match bX m a with
   | some e=>(m,some e)
   | none=>aU m fun m=>iS m ⟨none,a,b⟩
def aL (m:af) (n:Nm):af×Option Int:=match bX m n with
 | some e=>(m,some e)
 | none=>aU m fun m=>iS m ⟨none,n,[]⟩
def jO (m:af) (n:Nm):List UInt8:=if (bX m n).isSome then [] else (fileAt m.files (cI m n)).data
def nW (l:List UInt8) (at_ n:Int):Bool:=decide (at_<0)||decide (n<0)||decide (at_>(l.length:Int))||decide (n>(l.length:Int)-at_)
def gM (m:af) (n:Nm) (at_ k:Int):Option Int:=match bX m n with
 | some e=>some e
 | none=>if nW (fileAt m.files (cI m n)).data at_ k then some 7 else none
def eV (m:af) (n:Nm) (at_ k:Int):List UInt8:=if (gM m n at_ k).isSome then [] else ((fileAt m.files (cI m n)).data.drop at_.toNat).take k.toNat
def jH (size:Int):af:=⟨size,[],[],[],[],0,false,none,[]⟩

structure fE (k:Nat) (d:Dir):Prop where
 asc:gU Ent.name d
 len:d.length≤4096
 ent:∀e∈d,e.file<k∧cN e.name=true
 inj:d.Pairwise fun x y=>x.file≠y.file
structure WFD (m:af):Prop where
 now:m.now=replay m.syn m.chs
 Bk:∀k,fE m.files.length (replay m.syn (m.chs.take k))
 made:∀c∈m.chs,∀i,c.made=some i→i<m.files.length
 syn:∀f∈m.files,f.syn≤f.data.length∧f.data.length≤1099511627776
 size:0≤m.size∧m.size≤67108864

theorem WFD.dZ {m:af} (h:WFD m):fE m.files.length m.now:=by
 have:=h.Bk m.chs.length
 rw [List.take_length,←h.now] at this
 exact this
theorem WFD.Ow {m:af} (h:WFD m):fE m.files.length m.syn:=h.Bk 0
theorem fE.mono {k k':Nat} {d:Dir} (h:fE k d) (hk:k≤k'):fE k' d:=⟨h.asc,h.len,fun e he=>⟨by have:=(h.ent e he).1;omega,(h.ent e he).2⟩,h.inj⟩
theorem Hj (k:Nat):fE k []:=⟨List.Pairwise.nil,by simp,by simp,List.Pairwise.nil⟩
theorem fE.del {k:Nat} {d:Dir} (h:fE k d) (n:Nm):fE k (eT Ent.name d n):=
 ⟨nT h.asc n,Nat.le_trans (Er _ _) h.len,fun e he=>h.ent e (lP.1 he).1,h.inj.sublist List.filter_sublist⟩
theorem fE.inj' {k:Nat} {d:Dir} (h:fE k d) {x y:Ent} (hx:x∈d) (hy:y∈d) (he:x.file=y.file):x=y:=by
 have hi:=h.inj
 clear h
 induction d with
 | nil=>simp at hx
 | cons z d ih=>
   have a:=List.pairwise_cons.1 hi
   rcases List.mem_cons.1 hx with e1 | h1<;>rcases List.mem_cons.1 hy with e2 | h2
   · rw [e1,e2]
   · rw [e1] at he;exact absurd he (a.1 y h2)
   · rw [e2] at he;exact absurd he.symm (a.1 x h1)
   · exact ih h1 h2 a.2
theorem fE.ins {k:Nat} {d:Dir} (h:fE k d) {n:Nm} {i:Nat} (hi:i<k) (hn:cN n=true) (hl:d.length+1≤4096∨findD d n≠none) (hne:∀e∈d,e.name≠n→e.file≠i):fE k (eD Ent.name d ⟨n,i⟩):=by
 refine ⟨oa h.asc _,?_,fun e he=>?_,?_⟩
 · rcases hl with hl | hl
   · exact Nat.le_trans (xV d _) hl
   · exact Nat.le_trans (CT h.asc hl) h.len
 · rcases kI.1 he with rfl | ⟨he,_⟩
   · exact ⟨hi,hn⟩
   · exact h.ent e he
 · unfold eD
   refine List.pairwise_append.2 ⟨h.inj.sublist List.filter_sublist,List.pairwise_cons.2 ⟨fun x hx=>?_,h.inj.sublist List.filter_sublist⟩,fun x hx y hy=>?_⟩
   · have h1:=List.mem_filter.1 hx
     exact (hne x h1.1 (gy h1.2).symm).symm
   · have h1:=List.mem_filter.1 hx
     rcases List.mem_cons.1 hy with rfl | hy
     · exact hne x h1.1 (gy h1.2)
     · have h2:=List.mem_filter.1 hy
       intro e
       have e2:=h.inj' h1.1 h2.1 e
       subst e2
       have:=lex_trans _ _ _ h1.2 h2.2
       rw [lex_irrefl] at this
       cases this

theorem WFD.snoc {m:af} (h:WFD m) {c:ChM} {fs:List cg} (hfs:m.files.length≤fs.length) (hs:∀f∈fs,f.syn≤f.data.length∧f.data.length≤1099511627776) (hc:∀i,c.made=some i→i<fs.length) (hd:fE fs.length (mkD m.now c)):
   WFD { iS m c with files:=fs } :=by
 refine ⟨?_,fun k=>?_,fun c' hc'=>?_,hs,h.size⟩
 · show mkD m.now c=replay m.syn (m.chs++ [c])
   rw [oB,←h.now]
 · show fE fs.length (replay m.syn ((m.chs++ [c]).take k))
   by_cases hk:k≤m.chs.length
   · rw [List.take_append_of_le_length hk]
     exact (h.Bk k).mono hfs
   · rw [List.take_of_length_le (by simp;omega),oB,←h.now]
     exact hd
 · rcases List.mem_append.1 hc' with h1 | h1
   · exact fun i hi=>Nat.lt_of_lt_of_le (h.made c' h1 i hi) hfs
   · simp at h1;rw [h1];exact hc
theorem CO (m:af):∃(s:Nat) (d:Bool) (a:Option Nat) (f:List Nat),(bp m).1= { m with steps:=s,down:=d,arm:=a,bW:=f } :=by
 unfold bp
 split
 · exact ⟨m.steps,true,m.arm,m.bW,by cases m;rfl⟩
 · split
   · rename_i h;exact ⟨_,m.down,_,[],by rw [←h]⟩
   · rename_i r h;exact ⟨_,m.down,_,_,rfl⟩
   · rename_i k r h;exact ⟨_,m.down,_,_,rfl⟩
theorem WFD.upd {m:af} (h:WFD m) (s:Nat) (d:Bool) (a:Option Nat) (f:List Nat):WFD { m with steps:=s,down:=d,arm:=a,bW:=f } :=⟨h.now,h.Bk,h.made,h.syn,h.size⟩
end Go.Proofs.YtpmhjnhgpplmnaaGreatDoor
end

section
namespace Go.Proofs.YtpmhjnhgpplmnaaGreatDoor
open Go Sx
set_option maxRecDepth 8000

def jr (w:World):Prop:=Lib.TabIs Tryz.prog w "internal/strconv.uint64pow10" .u64 Lib.pow10Tab
theorem jr.an {w w':World} (h:jr w) (hc:Chg [] w w'):jr w':=by
 have hg:Tryz.prog.globalNamed "internal/strconv.uint64pow10" =some 3:=by kernel_rfl
 unfold jr Lib.TabIs World.var? at*
 rw [hg] at h ⊢
 simp only [Option.bind_some] at h ⊢
 cases hh:w.heap[3]? with
 | none=>rw [hh] at h;simp at h
 | some o=>
   have hlt:=(Array.getElem?_eq_some_iff.1 hh).1
   rw [hc.block _ hlt (by simp),hh]
   rw [hh] at h
   exact h

theorem J2 (w:World) (q:Nat) (os:Array Obj):Chg [] w (Sort.grow (w.drewN q) os):=⟨rfl,rfl,rfl,by simp [Sort.grow,World.drewN],fun k hk _=>by simp [Sort.grow,World.drewN,Array.getElem?_append_left hk]⟩

theorem HA:∀(u:Nat),∀b∈Lib.decDigits u,48≤b.toNat∧b.toNat≤57:=by
 intro u
 induction u using Nat.strongRecOn with
 | ind u ih=>
   intro b hb
   rw [Lib.decDigits] at hb
   split at hb
   · simp only [List.mem_singleton] at hb
     subst hb
     rw [UInt8.toNat_ofNat'];omega
   · rcases List.mem_append.1 hb with hb | hb
     · exact ih (u / 10) (by omega) b hb
     · simp only [List.mem_singleton] at hb
       subst hb
       rw [UInt8.toNat_ofNat'];omega
def ay (num:Int):Nm:=112::Lib.itoa num
theorem IM {num:Int} (hg:cU num=true):cN (ay num)=true:=by
 have h:=dO.1 hg
 obtain ⟨u,rfl⟩:∃u:Nat,num=(u:Int):=⟨num.toNat,by omega⟩
 have hl:=Lib.itoa_length_le (u:Int) (by omega) (by omega)
 rw [Lib.itoa_nonneg] at hl
 rw [ay,Lib.itoa_nonneg]
 unfold cN
 simp only [List.length_cons,Bool.and_eq_true,decide_eq_true_eq,List.all_cons]
 refine ⟨⟨by omega,by omega⟩,by decide,?_⟩
 rw [List.all_eq_true]
 intro b hb
 have:=HA u b hb
 simp only [qH,Bool.and_eq_true,decide_eq_true_eq,Bool.not_eq_true',decide_eq_false_iff_not]
 omega

theorem AJ (num:Int) (h: -9223372036854775808≤num∧num≤9223372036854775807) (w:World) (hT:jr w):Calls Tryz.prog 95 #[.int .i64 num] w fun e w'=>e=.returned (.string ⟨(Lib.itoa num).toArray⟩)∧Chg [] w w':=by
 refine Calls.mono (Any.strconv_Itoa JL num h.1 h.2 w hT) ?_
 rintro e w' ⟨rfl,q,os,rfl⟩
 exact ⟨rfl,J2 w q os⟩

theorem Of (a b:ByteArray) (x y:Operand) (w:World) (h:(a.size:Int)+(b.size:Int)≤9223372036854775807):(dK .add 9 x y (.string a) (.string b)).run Tryz.prog w=.ok (.string (a++b)) w:=by
 simp [dK,eqGuard,binOp,Op.stringOp,h]

theorem jo (num:Int) (w:World) (hT:jr w) (hg:cU num=true):Calls Tryz.prog 132 #[.int .i64 num] w fun e w'=>e=.returned (aJ (ay num))∧Chg [] w w':=by
 have h:=dO.1 hg
 apply B0
 refine (oL num w).mono ?_
 rintro e w1 ⟨rfl,rfl⟩
 rw [hg]
 refine ⟨_,rfl,fun h=>(by cases h),fun _=>(AJ num (by omega) w1 hT).mono ?_⟩
 rintro e w2 ⟨rfl,c2⟩
 have hsz:((ByteArray.mk #[112]).size:Int)+((ByteArray.mk (Lib.itoa num).toArray).size:Int)≤9223372036854775807:=by
   have:=Lib.itoa_length_le num (by omega) (by omega)
   have e1:(ByteArray.mk (Lib.itoa num).toArray).size=(Lib.itoa num).length:=by simp [ByteArray.size]
   have e2:(ByteArray.mk #[112]).size=1:=rfl
   rw [e1,e2]
   omega
 refine ⟨_,rfl,_,Of _ _ _ _ _ hsz,?_,c2⟩
 have e:(ByteArray.mk #[112]++ByteArray.mk (Lib.itoa num).toArray)=ByteArray.mk (112::Lib.itoa num).toArray:=by
   apply ByteArray.ext
   simp [ByteArray.data_append]
 exact congrArg (fun b=>Ending.returned (.string b)) e

end Go.Proofs.YtpmhjnhgpplmnaaGreatDoor
end

section
namespace Go.Proofs.YtpmhjnhgpplmnaaGreatDoor
open Go Sx
set_option maxRecDepth 8000

theorem rK:∀(l:List UInt8) (acc v:Nat),Lib.parseUint10 acc l=.ok v→∀c:UInt8,48≤c.toNat→c.toNat≤57→v<1844674407370955162→v*10+(c.toNat-48)<18446744073709551616→Lib.parseUint10 acc (l++ [c])=.ok (v*10+(c.toNat-48))
 | [],acc,v,h,c,h1,h2,h3,h4=>by
   simp only [Lib.parseUint10] at h
   injection h with h
   subst h
   simp only [List.nil_append,Lib.parseUint10]
   rw [if_pos ⟨h1,h2⟩,if_neg (by omega),if_neg (by omega)]
 | b::l,acc,v,h,c,h1,h2,h3,h4=>by
   simp only [Lib.parseUint10] at h
   simp only [List.cons_append,Lib.parseUint10]
   split at h
   · rename_i hb
     rw [if_pos hb]
     split at h
     · cases h
     · rename_i ha
       rw [if_neg ha]
       split at h
       · cases h
       · rename_i hc
         rw [if_neg hc]
         exact rK l _ v h c h1 h2 h3 h4
   · cases h
theorem gL {k:Nat} (h:k<10):(UInt8.ofNat (48+k)).toNat=48+k:=by rw [UInt8.toNat_ofNat'];omega
theorem Ht:∀u:Nat,u<9223372036854775808→Lib.parseUint10 0 (Lib.decDigits u)=.ok u:=by
 intro u
 induction u using Nat.strongRecOn with
 | ind u ih=>
   intro hu
   rw [Lib.decDigits]
   split
   · rename_i h
     have:=rK [] 0 0 rfl (UInt8.ofNat (48+u)) (by rw [gL h];omega) (by rw [gL h];omega) (by omega) (by rw [gL h];omega)
     rw [List.nil_append,gL h] at this
     rw [this]
     congr 1;omega
   · rename_i h
     have hm:u%10<10:=Nat.mod_lt _ (by decide)
     have:=rK (Lib.decDigits (u / 10)) 0 (u / 10) (ih (u / 10) (by omega) (by omega)) (UInt8.ofNat (48+u%10)) (by rw [gL hm];omega) (by rw [gL hm];omega) (by omega) (by rw [gL hm];omega)
     rw [gL hm] at this
     rw [this]
     congr 1;omega
theorem KQ (u:Nat):Lib.decDigits u≠ []:=by
 rw [Lib.decDigits]
 split<;>simp
theorem DY:∀(u:Nat),∀b∈Lib.decDigits u,48≤b.toNat∧b.toNat≤57:=by
 intro u
 induction u using Nat.strongRecOn with
 | ind u ih=>
   intro b hb
   rw [Lib.decDigits] at hb
   split at hb
   · rename_i h
     simp only [List.mem_singleton] at hb
     subst hb
     rw [gL h];omega
   · rcases List.mem_append.1 hb with hb | hb
     · exact ih (u / 10) (by omega) b hb
     · simp only [List.mem_singleton] at hb
       subst hb
       rw [gL (Nat.mod_lt _ (by decide))];omega
theorem K7 {u:Nat} (hu:u<9223372036854775808):Lib.atoiAll (Lib.decDigits u)=.ok (u:Int):=by
 have hp:=Ht u hu
 have hb:=DY u
 have hn:=KQ u
 revert hp hb hn
 generalize Lib.decDigits u=l
 intro hp hb hn
 cases l with
 | nil=>exact absurd rfl hn
 | cons c r=>
   have hc:=hb c (by simp)
   have h1:¬(c.toNat=43∨c.toNat=45):=by omega
   have h2:¬c.toNat=45:=by omega
   have hm:Lib.parseMag (c::r)=.ok u:=by unfold Lib.parseMag;rw [if_neg (by simp)];exact hp
   have hu2:¬(9223372036854775808≤u):=by omega
   unfold Lib.atoiAll
   dsimp only
   rw [if_neg h1,hm]
   simp only [h2,hu2,if_false,not_false_eq_true,true_and,false_and]
theorem Em (u:Nat):Lib.itoa (u:Int)=Lib.decDigits u:=Lib.itoa_nonneg u
theorem Iq {n:Int} (h0:0≤n) (h1:n≤9223372036854775807):Lib.atoiAll (Lib.itoa n)=.ok n:=by
 obtain ⟨u,rfl⟩:∃u:Nat,n=(u:Int):=⟨n.toNat,by omega⟩
 rw [Em]
 exact K7 (by omega)

def Ai (l:List UInt8):Nat:=l.foldl (fun n c=>10*n+(c.toNat-48)) 0
theorem zh (l:List UInt8) (c:UInt8):Ai (l++ [c])=10*Ai l+(c.toNat-48):=by simp [Ai]
theorem Ii:∀u:Nat,Ai (Lib.decDigits u)=u:=by
 intro u
 induction u using Nat.strongRecOn with
 | ind u ih=>
   rw [Lib.decDigits]
   split
   · rename_i h
     have:=zh [] (UInt8.ofNat (48+u))
     rw [List.nil_append,gL h] at this
     rw [this];simp [Ai]
   · rw [zh,ih (u / 10) (by omega),gL (Nat.mod_lt _ (by decide))];omega
theorem G0:∀(k u:Nat),u<10^(k+1)→(Lib.decDigits u).length≤k+1
 | 0,u,h=>by rw [Lib.decDigits,dif_pos (by simpa using h)];simp
 | k+1,u,h=>by
   rw [Lib.decDigits]
   split
   · simp
   · rw [List.length_append,List.length_singleton]
     rw [Nat.pow_succ] at h
     have:=G0 k (u / 10) (by omega)
     omega

def aV (c:UInt8) (n:Int):List UInt8:=c::Lib.itoa n
def zx (c:UInt8) (lo hi:Int) (s:List UInt8):Option Int:=match s with
 | []=>none
 | _::r=>match Lib.atoiAll r with
   | .ok v=>if lo≤v∧v≤hi∧aV c v=s then some v else none
   | _=>none
theorem Jj {c:UInt8} {lo hi:Int} (h0:0≤lo) (h1:hi≤9223372036854775807) {s:List UInt8} {v:Int} :zx c lo hi s=some v↔lo≤v∧v≤hi∧aV c v=s:=by
 constructor
 · intro h
   unfold zx at h
   split at h
   · cases h
   · split at h
     · split at h
       · rename_i hc
         obtain rfl:=Option.some.inj h
         exact hc
       · cases h
     · cases h
 · rintro ⟨a,b,rfl⟩
   unfold zx aV
   simp only [Iq (by omega:0≤v) (by omega)]
   rw [if_pos ⟨a,b,trivial⟩]
theorem mB {c:UInt8} {v:Int} (h0:0≤v) (h1:v≤1099511627776):∃r,aV c v=c::r∧r≠ []∧r.length≤13∧(∀b∈r,48≤b.toNat∧b.toNat≤57)∧(Ai r:Int)=v:=by
 obtain ⟨u,rfl⟩:∃u:Nat,v=(u:Int):=⟨v.toNat,by omega⟩
 refine ⟨Lib.decDigits u,by rw [aV,Em],KQ u,G0 12 u (by omega),DY u,by rw [Ii]⟩

end Go.Proofs.YtpmhjnhgpplmnaaGreatDoor
end

section
namespace Go.Proofs.YtpmhjnhgpplmnaaGreatDoor
open Go.Shelf
def A0:Go.Shelf.Ren:=⟨fun | 172=>94 | 244=>192 | 245=>193 | 247=>263 | 279=>264 | 280=>265 | 281=>266 | 282=>267 | 287=>316 | 316=>317 | 171=>95 | 205=>318 | 321=>355 | 322=>356 | 243=>194 | 246=>268 | 283=>319 | 284=>320 | 285=>321 | 286=>322 | 129=>274 | 317=>357 | 318=>358 | 319=>359 | 320=>360 | 337=>374 | 338=>375 | n=>n,fun | 9=>9 | 3=>3 | 75=>58 | 76=>182 | 4=>4 | 5=>5 | 167=>356 | 37=>26 | 0=>0 | 85=>357 | 2=>2 | 168=>359 | 53=>42 | 175=>412 | 46=>299 | 210=>416 | 127=>454 | 145=>457 | 143=>455 | 21=>21 | 171=>417 | 173=>419 | 212=>459 | 51=>370 | 20=>20 | 213=>460 | 232=>39 | 233=>368 | 80=>482 | n=>n,fun | 15=>0 | 16=>1 | 17=>3 | 18=>4 | 19=>5 | n=>n⟩
theorem xg:Go.Proofs.LaysC.n172 Tryz.prog A0:= {
 mixed:=by kernel_rfl
 f129:=Tryz.func274.trans (congrArg some (by kernel_rfl))
 f171:=Tryz.func95.trans (congrArg some (by kernel_rfl))
 f172:=Tryz.func94.trans (congrArg some (by kernel_rfl))
 f205:=Tryz.func318.trans (congrArg some (by kernel_rfl))
 f243:=Tryz.func194.trans (congrArg some (by kernel_rfl))
 f244:=Tryz.func192.trans (congrArg some (by kernel_rfl))
 f245:=Tryz.func193.trans (congrArg some (by kernel_rfl))
 f246:=Tryz.func268.trans (congrArg some (by kernel_rfl))
 f247:=Tryz.func263.trans (congrArg some (by kernel_rfl))
 f279:=Tryz.func264.trans (congrArg some (by kernel_rfl))
 f280:=Tryz.func265.trans (congrArg some (by kernel_rfl))
 f281:=Tryz.func266.trans (congrArg some (by kernel_rfl))
 f282:=Tryz.func267.trans (congrArg some (by kernel_rfl))
 f283:=Tryz.func319.trans (congrArg some (by kernel_rfl))
 f284:=Tryz.func320.trans (congrArg some (by kernel_rfl))
 f285:=Tryz.func321.trans (congrArg some (by kernel_rfl))
 f286:=Tryz.func322.trans (congrArg some (by kernel_rfl))
 f287:=Tryz.func316.trans (congrArg some (by kernel_rfl))
 f316:=Tryz.func317.trans (congrArg some (by kernel_rfl))
 f317:=Tryz.func357.trans (congrArg some (by kernel_rfl))
 f318:=Tryz.func358.trans (congrArg some (by kernel_rfl))
 f319:=Tryz.func359.trans (congrArg some (by kernel_rfl))
 f320:=Tryz.func360.trans (congrArg some (by kernel_rfl))
 f321:=Tryz.func355.trans (congrArg some (by kernel_rfl))
 f322:=Tryz.func356.trans (congrArg some (by kernel_rfl))
 f337:=Tryz.func374.trans (congrArg some (by kernel_rfl))
 f338:=Tryz.func375.trans (congrArg some (by kernel_rfl))
 t0:=Tryz.underlying0
 a0:=Tryz.isAgg0
 z0:=Tryz.sizeOf0
 v0:=Tryz.zeroValue0
 t2:=Tryz.underlying2
 a2:=Tryz.isAgg2
 z2:=Tryz.sizeOf2
 v2:=Tryz.zeroValue2
 t3:=Tryz.underlying3
 a3:=Tryz.isAgg3
 z3:=Tryz.sizeOf3
 v3:=Tryz.zeroValue3
 t4:=Tryz.underlying4
 a4:=Tryz.isAgg4
 z4:=Tryz.sizeOf4
 v4:=Tryz.zeroValue4
 t5:=Tryz.underlying5
 a5:=Tryz.isAgg5
 z5:=Tryz.sizeOf5
 v5:=Tryz.zeroValue5
 t9:=Tryz.underlying9
 a9:=Tryz.isAgg9
 z9:=Tryz.sizeOf9
 v9:=Tryz.zeroValue9
 t20:=Tryz.underlying20
 a20:=Tryz.isAgg20
 z20:=Tryz.sizeOf20
 v20:=Tryz.zeroValue20
 t21:=Tryz.underlying21
 a21:=Tryz.isAgg21
 z21:=Tryz.sizeOf21
 v21:=Tryz.zeroValue21
 t37:=Tryz.underlying26
 a37:=Tryz.isAgg26
 z37:=Tryz.sizeOf26
 v37:=Tryz.zeroValue26
 t46:=Tryz.underlying299
 a46:=Tryz.isAgg299
 z46:=Tryz.sizeOf299
 v46:=Tryz.zeroValue299
 t51:=Tryz.underlying370
 a51:=Tryz.isAgg370
 z51:=Tryz.sizeOf370
 v51:=Tryz.zeroValue370
 t53:=Tryz.underlying42
 a53:=Tryz.isAgg42
 z53:=Tryz.sizeOf42
 v53:=Tryz.zeroValue42
 t75:=Tryz.underlying58
 a75:=Tryz.isAgg58
 z75:=Tryz.sizeOf58
 v75:=Tryz.zeroValue58
 t76:=Tryz.underlying182
 a76:=Tryz.isAgg182
 z76:=Tryz.sizeOf182
 v76:=Tryz.zeroValue182
 t85:=Tryz.underlying357
 a85:=Tryz.isAgg357
 z85:=Tryz.sizeOf357
 v85:=Tryz.zeroValue357
 t127:=Tryz.underlying454
 a127:=Tryz.isAgg454
 z127:=Tryz.sizeOf454
 v127:=Tryz.zeroValue454
 t143:=Tryz.underlying455
 a143:=Tryz.isAgg455
 z143:=Tryz.sizeOf455
 v143:=Tryz.zeroValue455
 t145:=Tryz.underlying457
 a145:=Tryz.isAgg457
 z145:=Tryz.sizeOf457
 v145:=Tryz.zeroValue457
 t167:=Tryz.underlying356
 a167:=Tryz.isAgg356
 z167:=Tryz.sizeOf356
 v167:=Tryz.zeroValue356
 t168:=Tryz.underlying359
 a168:=Tryz.isAgg359
 z168:=Tryz.sizeOf359
 v168:=Tryz.zeroValue359
 t171:=Tryz.underlying417
 a171:=Tryz.isAgg417
 z171:=Tryz.sizeOf417
 v171:=Tryz.zeroValue417
 t173:=Tryz.underlying419
 a173:=Tryz.isAgg419
 z173:=Tryz.sizeOf419
 v173:=Tryz.zeroValue419
 t175:=Tryz.underlying412
 a175:=Tryz.isAgg412
 z175:=Tryz.sizeOf412
 v175:=Tryz.zeroValue412
 t210:=Tryz.underlying416
 a210:=Tryz.isAgg416
 z210:=Tryz.sizeOf416
 v210:=Tryz.zeroValue416
 t212:=Tryz.underlying459
 a212:=Tryz.isAgg459
 z212:=Tryz.sizeOf459
 v212:=Tryz.zeroValue459
 t213:=Tryz.underlying460
 a213:=Tryz.isAgg460
 z213:=Tryz.sizeOf460
 t232:=Tryz.underlying39
 a232:=Tryz.isAgg39
 z232:=Tryz.sizeOf39
 v232:=Tryz.zeroValue39
 t233:=Tryz.underlying368
 a233:=Tryz.isAgg368
 z233:=Tryz.sizeOf368
 v233:=Tryz.zeroValue368
 g15:=by kernel_rfl
 g16:=by kernel_rfl
 g17:=by kernel_rfl
 g18:=by kernel_rfl
 g19:=by kernel_rfl
 t80:=Tryz.underlying482
 a80:=Tryz.isAgg482
 z80:=Tryz.sizeOf482
 v80:=Tryz.zeroValue482
 i0:=by kernel_rfl
 i2:=by kernel_rfl
 i3:=by kernel_rfl
 i4:=by kernel_rfl
 i5:=by kernel_rfl
 i9:=by kernel_rfl
 i20:=by kernel_rfl
 i21:=by kernel_rfl
 i37:=by kernel_rfl
 i46:=by kernel_rfl
 i51:=by kernel_rfl
 i53:=by kernel_rfl
 i75:=by kernel_rfl
 i76:=by kernel_rfl
 i80:=by kernel_rfl
 i85:=by kernel_rfl
 i127:=by kernel_rfl
 i143:=by kernel_rfl
 i145:=by kernel_rfl
 i167:=by kernel_rfl
 i168:=by kernel_rfl
 i171:=by kernel_rfl
 i173:=by kernel_rfl
 i175:=by kernel_rfl
 i210:=by kernel_rfl
 i212:=by kernel_rfl
 i232:=by kernel_rfl
 i233:=by kernel_rfl
 m15:=by kernel_rfl
 m16:=by kernel_rfl
 m17:=by kernel_rfl
 m18:=by kernel_rfl
 m19:=by kernel_rfl
 c0:=by kernel_rfl
 c2:=by kernel_rfl
 c3:=by kernel_rfl
 c4:=by kernel_rfl
 c5:=by kernel_rfl
 c9:=by kernel_rfl
 c20:=by kernel_rfl
 c21:=by kernel_rfl
 c37:=by kernel_rfl
 c46:=by kernel_rfl
 c51:=by kernel_rfl
 c53:=by kernel_rfl
 c75:=by kernel_rfl
 c76:=by kernel_rfl
 c80:=by kernel_rfl
 c85:=by kernel_rfl
 c127:=by kernel_rfl
 c143:=by kernel_rfl
 c145:=by kernel_rfl
 c167:=by kernel_rfl
 c168:=by kernel_rfl
 c171:=by kernel_rfl
 c173:=by kernel_rfl
 c175:=by kernel_rfl
 c210:=by kernel_rfl
 c212:=by kernel_rfl
 c213:=by kernel_rfl
 c232:=by kernel_rfl
 c233:=by kernel_rfl }
end Go.Proofs.YtpmhjnhgpplmnaaGreatDoor
end

section
namespace Go.Proofs.YtpmhjnhgpplmnaaGreatDoor
open Go Sx
set_option maxRecDepth 8000

def rV (w:World):Prop:=(∃t p,w.var? Tryz.prog "strconv.ErrSyntax" =some #[.iface t p])∧∃t p,w.var? Tryz.prog "strconv.ErrRange" =some #[.iface t p]
theorem Db {w w':World} {s:String} {x:Array Value} (h:w.var? Tryz.prog s=some x) (hc:Chg [] w w'):w'.var? Tryz.prog s=some x:=by
 unfold World.var? at h ⊢
 cases hg:Tryz.prog.globalNamed s with
 | none=>rw [hg] at h;cases h
 | some g=>
   rw [hg] at h
   simp only [Option.bind_some] at h ⊢
   cases hh:w.heap[g]? with
   | none=>rw [hh] at h;simp at h
   | some o=>
     have hlt:=(Array.getElem?_eq_some_iff.1 hh).1
     rw [hc.block _ hlt (by simp),hh]
     rw [hh] at h
     exact h
theorem rV.an {w w':World} (h:rV w) (hc:Chg [] w w'):rV w':=by
 obtain ⟨⟨t,p,h1⟩,t2,p2,h2⟩:=h
 exact ⟨⟨t,p,Db h1 hc⟩,t2,p2,Db h2 hc⟩
theorem K5 {T:TypeId} {m} (hT:Tryz.prog.underlying T=some (.interface m)) (U:TypeId) (v:Value) (x:Operand) (w:World):(dK .neq T x (.const .nilIface) (.iface U v) .nilIface).run Tryz.prog w=.ok (.bool true) w:=by
 have h2:∀d U v,(Op.equalIn (d+1) T (.iface U v) .nilIface).run Tryz.prog w=.ok false w:=fun d U v=>by simp [Op.equalIn,run_underlying hT]
 simp [dK,eqGuard,binOp,Op.equal,show Op.maxDepth=9999+1 from rfl,h2 9999]
theorem EH (w:World) (e:TypeId) (s:ByteArray):Chg [] w (Lib.bytesWorld w e s):=by
 unfold Lib.bytesWorld
 have h1:Chg [] w (w.drew.alloc (.cells (Lib.bytesCells w e s) e)):=(Chg.drew [] w).trans (Chg.alloc _ _)
 have h2:Chg [w.heap.size] (w.drew.alloc (.cells (Lib.bytesCells w e s) e)) ((w.drew.alloc (.cells (Lib.bytesCells w e s) e)).freeze ⟨w.heap.size,(Lib.bytesCells w e s).size,none⟩ 1):=by
   refine ⟨by simp [World.freeze],by simp [World.freeze],by simp [World.freeze],by simp [World.freeze],fun k _ hk=>?_⟩
   simp only [World.freeze,Nat.succ_ne_zero,if_false,Array.getElem?_modify]
   rw [if_neg (by simpa using fun h=>hk (by simp [h]))]
 exact h1.trans' h2 (fun i hi=>.inl (by simp at hi;omega))
theorem H9 (l:List UInt8) (hl:l.length≤281474976710656) (w:World) (hE:rV w):
   Calls Tryz.prog 94 #[.string ⟨l.toArray⟩] w fun e w'=>Chg [] w w'∧((∃v,Lib.atoiAll l=.ok v∧e=.returned (.tuple #[.int .i64 v,.nilIface]))∨((∀v,Lib.atoiAll l≠ .ok v)∧∃v t p,e=.returned (.tuple #[.int .i64 v,.iface t p]))):=by
 have hsz:(⟨l.toArray⟩:ByteArray).size=l.length:=by show l.toArray.size=_;simp
 have hdl:(⟨l.toArray⟩:ByteArray).data.toList=l:=rfl
 obtain ⟨⟨t1,p1,h1⟩,t2,p2,h2⟩:=hE
 cases ha:Lib.atoiAll l with
 | ok v=>
   refine Calls.mono (Any.strconv_Atoi_ok xg ⟨l.toArray⟩ (by omega) v (by rw [hdl];exact ha) w) ?_
   rintro e w' ⟨rfl,hw⟩
   refine ⟨?_,.inl ⟨v,rfl,rfl⟩⟩
   rcases hw with rfl | ⟨t,rfl⟩
   · exact Chg.refl _ _
   · exact EH _ _ _
 | range=>
   refine Calls.mono (Any.strconv_Atoi_range_var xg ⟨l.toArray⟩ (by omega) (by rw [hdl];exact ha) t2 p2 w h2) ?_
   rintro e w' ⟨N,rfl,_,_,hb⟩
   exact ⟨Chg.yU hb,.inr ⟨fun v h=>(by cases h),_,_,_,rfl⟩⟩
 | _=>
   refine Calls.mono (Any.strconv_Atoi_syntax_var xg ⟨l.toArray⟩ (by omega) (by rw [hdl];exact ha) t1 p1 w h1) ?_
   rintro e w' ⟨N,rfl,_,_,hb⟩
   exact ⟨Chg.yU hb,.inr ⟨fun v h=>(by cases h),_,_,_,rfl⟩⟩
theorem Oy (a b:List UInt8) (x y:Operand) (w:World) (h:a.length+b.length≤9223372036854775807):(dK .add 9 x y (.string ⟨a.toArray⟩) (.string ⟨b.toArray⟩)).run Tryz.prog w=.ok (.string ⟨(a++b).toArray⟩) w:=by
 have h2:((⟨a.toArray⟩:ByteArray).size:Int)+((⟨b.toArray⟩:ByteArray).size:Int)≤9223372036854775807:=by
   have e1:(⟨a.toArray⟩:ByteArray).size=a.length:=by show a.toArray.size=_;simp
   have e2:(⟨b.toArray⟩:ByteArray).size=b.length:=by show b.toArray.size=_;simp
   omega
 have e:(ByteArray.mk a.toArray++ByteArray.mk b.toArray)=ByteArray.mk (a++b).toArray:=by
   apply ByteArray.ext
   simp [ByteArray.data_append]
 rw [←e]
 simp [dK,eqGuard,binOp,Op.stringOp,h2]
theorem JT (l:List UInt8):((⟨l.toArray⟩:ByteArray).toList==(ByteArray.mk #[]).toList)=decide (l=[]):=by
 rw [ByteArray.toList_eq,ByteArray.toList_eq]
 cases l<;>simp
theorem Oe (l m:List UInt8):((⟨l.toArray⟩:ByteArray).toList==(⟨m.toArray⟩:ByteArray).toList)=decide (l=m):=by
 rw [ByteArray.toList_eq,ByteArray.toList_eq]
 show (l==m)=decide (l=m)
 by_cases h:l=m<;>simp [h]

end Go.Proofs.YtpmhjnhgpplmnaaGreatDoor
end

section
namespace Go.Proofs.YtpmhjnhgpplmnaaGreatDoor
open Go Go.Proofs.YtpmhjnhgpplmnaaGreatDoor.Sx
set_option maxRecDepth 100000
variable (w:World) (R:Ending→World→Prop)
theorem qu (a:ByteArray) (h:∃(b:Int→World→Prop) (c:Int→World→Nat),b 0 w∧∀d e,b d e→Ifz (decide (d<(a.size:Int))) (∃f:Bool→World→Prop,(∃b,(Instr.index 9 (.string a) (.int .i64 d)).run Tryz.prog e=.ok (.int .u8 b) e∧Ifz (decide (b<(33:Int))) (f true e) (∃b,(Instr.index 9 (.string a) (.int .i64 d)).run Tryz.prog e=.ok (.int .u8 b) e∧f (decide (b>(126:Int))) e))∧∀a g,f a g→Ifz a (R (.returned (.bool false)) g) (b (IntKind.wrap .i64 (d+1)) g∧c (IntKind.wrap .i64 (d+1)) g<c d e)) (R (.returned (.bool (!(a.toList==(ByteArray.mk #[]).toList)&&decide ((a.size:Int)≤32)))) e)):Calls Tryz.prog 28 #[.string a] w R:=aa 0x13bec2b001d30d13d0521dcd13d14112a11a191a22d8200321d011611e6222983d21d Tryz.func28 (by kernel_rfl) h
theorem lW (a:Array Value) (h:Bxz 89 (.agg a) w fun a b=>Lsz 9 a 0 b fun c=>Cbz 28 #[.string c] b fun b c=>Ifz b (Liz 3 a 1 c (fun b=>Ifz (decide (b≥(-1099511627776:Int))) (Liz 3 a 1 c (fun b=>Ifz (decide (b≤(1099511627776:Int))) (Liz 3 a 2 c (fun b=>Ifz (decide (b≥(0:Int))) (Liz 3 a 3 c (fun b=>Ifz (decide (b≥(0:Int))) (Liz 3 a 3 c (fun a=>R (.returned (.bool (decide (a≤(65536:Int))))) c)) (R (.returned (.bool false)) c))) (R (.returned (.bool false)) c))) (R (.returned (.bool false)) c))) (R (.returned (.bool false)) c))) (R (.returned (.bool false)) c)):Calls Tryz.prog 106 #[.agg a] w R:=aa 0x39202c201f201a20520e0313ace0312dce03128ce0311bce0316c1414531c017c Tryz.func106 (by kernel_rfl) h
theorem uY (a:Array Value) (h:Bxz 47 (.agg a) w fun a b=>∃c:Bool→World→Prop,Liz 3 a 0 b (fun d=>Ifz (decide (d<(1:Int))) (c true b) (Liz 3 a 0 b (fun d=>Ifz (decide (d>(1099511627776:Int))) (c true b) (Liz 3 a 1 b (fun d=>Ifz (decide (d<(0:Int))) (c true b) (Liz 3 a 1 b (fun d=>Ifz (decide (d>(1099511627776:Int))) (c true b) (Laz 44 a 2 b (fun d=>Cvv 105 #[.agg d] b fun b d=>Nez .neq 58 (.tmp 29) b d fun b=>Ifz b (c true d) (Llz 25 a 7 d (fun b e f=>Ifz (decide ((e:Int)>64)) (c true d) (Llz 45 a 8 d (fun a b e=>c (decide ((b:Int)>1024)) d)))))))))))))∧∀b d,c b d→Ifz b (R (.returned (.iface 65 (.int .i64 28))) d) (Llz 25 a 7 d (fun b c e=>∃(e:Int→World→Prop) (f:Int→World→Nat),e 0 d∧∀d g,e d g→Ifz (decide (d<(c:Int))) (∃h i,b=some ⟨h,i,none⟩∧0≤d∧d<(c:Int)∧Laz 89 h (i+Int.toNat d*36) g fun b=>Alz 89 g fun c h=>Stz 89 c 0 (.agg b) h fun b=>∃h:Bool→World→Prop,(∃e:World→Prop,e b.drew∧∃f,(∀a,e a→LdQ 89 c 0 (.agg f) a)∧Cbz 106 #[.agg f] b.drew fun b f=>∃g:World→Prop,(∀a,g a→e a)∧g f∧Ifz (!b) (h true f) (Ifz (decide (d>(0:Int))) (∃b e i,(∀c,g c→LdQ 25 a 7 (.slice b e i) c)∧∃a i,b=some ⟨a,i,none⟩∧0≤IntKind.wrap .i64 (d- (1:Int))∧IntKind.wrap .i64 (d- (1:Int))<(e:Int)∧∃b,(∀c,g c→LdQ 9 a (i+Int.toNat (IntKind.wrap .i64 (d- (1:Int)))*36) (.string b) c)∧∃a,(∀b,g b→LdQ 9 c 0 (.string a) b)∧∃c,(∀d,g d→(dK .geq 9 (.tmp 66) (.tmp 68) (.string b) (.string a)).run Tryz.prog d=.ok (.bool c) d)∧h c f) (h false f)))∧∀a b,h a b→Ifz a (R (.returned (.iface 65 (.int .i64 28))) b) (e (IntKind.wrap .i64 (d+1)) b∧f (IntKind.wrap .i64 (d+1)) b<f d g)) (Llz 45 a 8 g (fun b c d=>∃(d:Int→Int→World→Prop) (e:Int→Int→World→Nat),d (-1) 0 g∧∀f g h,d f g h→Ifz (decide (g<(c:Int))) (∃i j,b=some ⟨i,j,none⟩∧0≤g∧g<(c:Int)∧Laz 91 i (j+Int.toNat g*3) h fun b=>Alz 91 h fun c i=>Stz 91 c 0 (.agg b) i fun b=>∃i:Bool→World→Prop,Liz 3 c 0 b (fun d=>Ifz (decide (d≤f)) (i true b) (Liz 3 c 0 b (fun d=>Liz 3 a 1 b fun a=>Ifz (decide (d≥a)) (i true b) (Liz 3 c 1 b (fun a=>Ifz (decide (a<(0:Int))) (i true b) (Liz 3 c 2 b (fun a=>i (decide (a<(0:Int))) b)))))))∧∀a b,i a b→Ifz a (R (.returned (.iface 65 (.int .i64 28))) b) (Liz 3 c 0 b (fun a=>d a (IntKind.wrap .i64 (g+1)) b∧e a (IntKind.wrap .i64 (g+1)) b<e f g h))) (R (.returned .nilIface) h)))))):Calls Tryz.prog 38 #[.agg a] w R:=aa 0x1d2b010311002d30d0310421c9ce03101921bcce03103102821adce03114111cd12d1a91a22067838c8200321d002119d1523d19d1715124980d731c21d2b002d3002a2922928391f391d31c1b2291831e1a1974202a2922428351f351d301c151b171831e1a197427b56543202a2922928391f391d31c1b2291831e1a19765472785322241814803541118f12b6d1a206178381c8200321d0116813a68322980d731c2002d30e7310524ec4273101b248cd4391483102923ace03102e22dce03103b228ce03104821bcd03114115b14c181a22017c Tryz.func38 (by kernel_rfl) h
theorem nB (a b:Nat) (c:Option Addr) (d e:Nat) (h:∃(e:Int→World→Prop) (f:Int→World→Nat),e 0 w∧∀g h,e g h→Ifz (decide (g<(d:Int))) (∃i j,c=some ⟨i,j,none⟩∧0≤g∧g<(d:Int)∧Liz 3 i (j+Int.toNat g*1) h fun c=>∃d:World→Prop,d h.drew∧∃i j k,(∀c,d c→LdQ 185 a b (.slice i j k) c)∧Clz 197 #[.int .i64 c] h.drew fun c l m n=>∃o:World→Prop,(∀a,o a→d a)∧o n∧∃d p q r,(Builtin.append_ #[185,26] 185 #[.slice i j k,.slice c l m]).run Tryz.prog n=.ok (.slice d p q) r∧∃c:World→Prop,(∀a,c a→o a)∧c r∧Stz 185 a b (.slice d p q) r fun a=>e (IntKind.wrap .i64 (g+1)) a∧f (IntKind.wrap .i64 (g+1)) a<f g h) (R (.returned (.tuple #[])) h)):Calls Tryz.prog 99 #[.pointer (some ⟨a,b,none⟩),.slice c d e] w R:=aa 0x2b118104184071726471854733421042501038c8200321d0111811d18152983d Tryz.func99 (by kernel_rfl) h
theorem nD (a b:Nat) (c:Option Addr) (d e:Nat) (h:∃(e:Int→World→Prop) (f:Int→World→Nat),e 0 w∧∀g h,e g h→Ifz (decide (g<(d:Int))) (∃i j,c=some ⟨i,j,none⟩∧0≤g∧g<(d:Int)∧Liz 3 i (j+Int.toNat g*1) h fun c=>∃d:World→Prop,d h.drew∧∃i j k,(∀c,d c→LdQ 185 a b (.slice i j k) c)∧Clz 196 #[.int .i64 c] h.drew fun c l m n=>∃o:World→Prop,(∀a,o a→d a)∧o n∧∃d p q r,(Builtin.append_ #[185,26] 185 #[.slice i j k,.slice c l m]).run Tryz.prog n=.ok (.slice d p q) r∧∃c:World→Prop,(∀a,c a→o a)∧c r∧Stz 185 a b (.slice d p q) r fun a=>e (IntKind.wrap .i64 (g+1)) a∧f (IntKind.wrap .i64 (g+1)) a<f g h) (R (.returned (.tuple #[])) h)):Calls Tryz.prog 98 #[.pointer (some ⟨a,b,none⟩),.slice c d e] w R:=aa 0x2b118104184071726471854733421042501038c8200321d0111811d18152983d Tryz.func98 (by kernel_rfl) h
theorem s9 (a b:Array Value) (h:Bxz 41 (.agg a) w fun a c=>Bxz 47 (.agg b) c fun b c=>Laz 47 b 0 c fun d=>Cvv 38 #[.agg d] c fun c d=>Nez .neq 58 (.tmp 14) c d fun e=>Ifz e (R (.returned (.tuple #[.slice none 0 0,c])) d) (Alz 185 d (fun c d=>Liz 3 b 0 d fun e=>Liz 3 b 1 d fun f=>Lkz .u64 42 b 2 d fun g=>Bsz 29 3 #[(0,.int .i64 e),(1,.int .i64 f),(2,.int .i64 (IntKind.wrap .i64 g))] d fun d e f g=>Calls Tryz.prog 98 #[.pointer (some ⟨c,0,none⟩),.slice d e f] g fun d e=>d=.returned (.tuple #[])∧Liz 3 b 3 e fun d=>Liz 3 b 4 e fun f=>Liz 3 b 5 e fun g=>Liz 3 b 6 e fun h=>Llz 25 b 7 e fun i j k=>Bsz 29 5 #[(0,.int .i64 d),(1,.int .i64 f),(2,.int .i64 g),(3,.int .i64 h),(4,.int .i64 (j:Int))] e fun d e f g=>Calls Tryz.prog 99 #[.pointer (some ⟨c,0,none⟩),.slice d e f] g fun d e=>d=.returned (.tuple #[])∧Llz 25 b 7 e fun d f g=>∃(g:Int→World→Prop) (h:Int→World→Nat),g 0 e∧∀e i,g e i→Ifz (decide (e<(f:Int))) (∃a b,d=some ⟨a,b,none⟩∧0≤e∧e<(f:Int)∧Laz 89 a (b+Int.toNat e*36) i fun a=>Alz 89 i fun b d=>Stz 89 b 0 (.agg a) d fun a=>∃d:World→Prop,d a.drew∧∃f j k,(∀a,d a→LdQ 185 c 0 (.slice f j k) a)∧∃l,(∀a,d a→LdQ 9 b 0 (.string l) a)∧Cvz 9 26 (.string l) a.drew fun a l m n=>∃o:World→Prop,(∀a,o a→d a)∧o n∧Bsz 24 1 #[(0,.slice a l m)] n fun a d l m=>∃n:World→Prop,(∀a,n a→o a)∧n m∧Clz 100 #[.slice a d l] m fun a d l m=>∃o:World→Prop,(∀a,o a→n a)∧o m∧∃n p q r,(Builtin.append_ #[185,26] 185 #[.slice f j k,.slice a d l]).run Tryz.prog m=.ok (.slice n p q) r∧∃a:World→Prop,(∀b,a b→o b)∧a r∧Stz 185 c 0 (.slice n p q) r fun a=>Liz 3 b 1 a fun d=>Bsz 29 1 #[(0,.int .i64 d)] a fun a d f j=>Calls Tryz.prog 98 #[.pointer (some ⟨c,0,none⟩),.slice a d f] j fun a d=>a=.returned (.tuple #[])∧Liz 3 b 2 d fun a=>Liz 3 b 3 d fun f=>Bsz 29 2 #[(0,.int .i64 a),(1,.int .i64 f)] d fun a d f j=>Calls Tryz.prog 99 #[.pointer (some ⟨c,0,none⟩),.slice a d f] j fun a d=>a=.returned (.tuple #[])∧∃a:World→Prop,a d.drew∧0≤(32:Int)∧(32:Int)≤32∧∃f j k,(∀b,a b→LdQ 185 c 0 (.slice f j k) b)∧∃l m n o,(Builtin.append_ #[185,26] 185 #[.slice f j k,.slice (some ⟨b,4,none⟩) 32 32]).run Tryz.prog d.drew=.ok (.slice l m n) o∧∃b:World→Prop,(∀c,b c→a c)∧b o∧Stz 185 c 0 (.slice l m n) o fun a=>g (IntKind.wrap .i64 (e+1)) a∧h (IntKind.wrap .i64 (e+1)) a<h e i) (Llz 45 b 8 i (fun d e f=>Bsz 29 1 #[(0,.int .i64 (e:Int))] i fun d e f g=>Calls Tryz.prog 99 #[.pointer (some ⟨c,0,none⟩),.slice d e f] g fun d e=>d=.returned (.tuple #[])∧Llz 45 b 8 e fun b d f=>∃(f:Int→World→Prop) (g:Int→World→Nat),f 0 e∧∀e h,f e h→Ifz (decide (e<(d:Int))) (∃a i,b=some ⟨a,i,none⟩∧0≤e∧e<(d:Int)∧Laz 91 a (i+Int.toNat e*3) h fun a=>Alz 91 h fun b d=>Stz 91 b 0 (.agg a) d fun a=>Liz 3 b 0 a fun d=>Liz 3 b 1 a fun i=>Liz 3 b 2 a fun b=>Bsz 29 3 #[(0,.int .i64 d),(1,.int .i64 i),(2,.int .i64 b)] a fun a b d i=>Calls Tryz.prog 99 #[.pointer (some ⟨c,0,none⟩),.slice a b d] i fun a b=>a=.returned (.tuple #[])∧f (IntKind.wrap .i64 (e+1)) b∧g (IntKind.wrap .i64 (e+1)) b<g e h) (Laz 41 a 0 h (fun a=>Bsz 26 7 #[(0,.int .u8 99),(1,.int .u8 97),(2,.int .u8 116),(3,.int .u8 97),(4,.int .u8 108),(5,.int .u8 111),(6,.int .u8 103)] h fun b d e f=>Cvz 26 26 (.slice b d e) f fun b d e f=>Llz 185 c 0 f fun c g h=>Clz 101 #[.agg a,.int .u8 4,.slice b d e,.slice c g h] f fun a b c d=>R (.returned (.tuple #[.slice a b c,.nilIface])) d))))))):Calls Tryz.prog 35 #[.agg a,.agg b] w R:=aa 0xd71473757583c2b004750310310311067838c8200321d0111a911d1a911b2980d731c2004751731c2b14104447234703621011500475031031c00475031c17104747264718547244723452370301152067838c8200321d0115f13a5f1192980d731c200475173103d03d03d03dc00475133d031031c07c003d30431c0191483c20d77c Tryz.func35 (by kernel_rfl) h
theorem wu (a:Int) (h:Ifz (decide (a<(1:Int))||decide (a>(1099511627776:Int))) (R (.returned (.string (ByteArray.mk #[]))) w) (Csz 95 #[.int .i64 a] w (fun a b=>∃c,(dK .add 9 (.const (.string (ByteArray.mk #[99]))) (.tmp 10) (.string (ByteArray.mk #[99])) (.string a)).run Tryz.prog b=.ok (.string c) b∧R (.returned (.string c)) b))):Calls Tryz.prog 30 #[.int .i64 a] w R:=aa 0x1535141c001d302bec21d Tryz.func30 (by kernel_rfl) h
theorem y6 (a:ByteArray) (h:Ifz (a.toList==(ByteArray.mk #[]).toList) (R (.returned (.tuple #[.int .i64 0,.bool false])) w) (0≤(1:Int)∧1≤(a.size:Int)∧Calls Tryz.prog 94 #[.string (a.extract (Int.toNat (1:Int)) a.size)] w fun b c=>∃d e,b=.returned (.tuple #[.int .i64 d,e])∧∃b:Bool→World→Prop,Nez .neq 58 (.tmp 14) e c (fun e=>Ifz e (b true c) (Csz 30 #[.int .i64 d] c (fun c d=>b (!(c.toList==a.toList)) d)))∧∀a c,b a c→Ifz a (R (.returned (.tuple #[.int .i64 0,.bool false])) c) (R (.returned (.tuple #[.int .i64 d,.bool true])) c))):Calls Tryz.prog 26 #[.string a] w R:=aa 0x3d002d30e514105228c143114112d1181e1a22052902491c002d32d22d Tryz.func26 (by kernel_rfl) h
theorem wz (a b:Nat) (c:ByteArray) (d:Value) (h:Bxz 51 (.pointer (some ⟨a,b,none⟩)) w fun a b=>Bxz 9 (.string c) b fun b c=>∃e f,(Instr.makeFunc (.func 262) #[] #[.pointer (some ⟨a,0,none⟩),.pointer (some ⟨b,0,none⟩)]).run Tryz.prog c=.ok e f∧Lpz 51 a 0 f fun a b=>∃c g,(Instr.makeFunc (.func 84) #[.pointer (some ⟨a,b,none⟩)] #[]).run Tryz.prog f=.ok c g∧Buz 355 #[(0,e),(1,c)] g fun a=>∃(b:Int→World→Prop) (c:Int→World→Nat),b 0 g∧∀e f,b e f→Ifz (decide (e<(2:Int))) (∃d,(Instr.index 355 (.agg a) (.int .i64 e)).run Tryz.prog f=.ok d f∧∃(a:Nat) (g:List Value) (h:List Value),d=.func (.func a) ⟨g⟩ ⟨h⟩∧gN Tryz.prog a=true∧Calls Tryz.prog a (g++([]:List Value)++h).toArray f fun a d=>∃g,a=.returned g∧Cbz 90 #[g,.iface 65 (.int .i64 1)] d fun a d=>Ifz a (R (.returned g) d) (Nez .neq 58 (.tmp 23) g d (fun a=>Ifz a (R (.returned (.iface 65 (.int .i64 22))) d) (b (IntKind.wrap .i64 (e+1)) d∧c (IntKind.wrap .i64 (e+1)) d<c e f)))) (R (.returned d) f)):Calls Tryz.prog 191 #[.pointer (some ⟨a,b,none⟩),.string c,d] w R:=aa 0x2d2b002d30431c02d30414dc0191ca1c0193c8200321d0111e11d1e218163980183956395c20177c Tryz.func191 (by kernel_rfl) h
theorem tB (a b c d:Nat) (h:Lpz 51 a b w fun a b=>Lsz 9 c d w fun c=>Cvv 89 #[.pointer (some ⟨a,b,none⟩),.string c] w fun a b=>R (.returned a) b):Calls Tryz.prog 262 #[.pointer (some ⟨a,b,none⟩),.pointer (some ⟨c,d,none⟩)] w R:=aa 0x19145363c1d Tryz.func262 (by kernel_rfl) h
theorem sP (a b:Nat) (c d:Array Value) (h:Bxz 51 (.pointer (some ⟨a,b,none⟩)) w fun a b=>Bxz 41 (.agg c) b fun b c=>Bxz 47 (.agg d) c fun c d=>Laz 41 b 0 d fun b=>Laz 47 c 0 d fun e=>C4z 35 #[.agg b,.agg e] d fun b d e f g=>Alz 26 g fun g h=>Stz 26 g 0 (.slice b d e) h fun b=>Nez .neq 58 (.tmp 20) f b fun d=>Ifz d (R (.returned f) b) (Lpz 51 a 0 b (fun d e=>Clz 80 #[.pointer (some ⟨d,e,none⟩)] b fun b d e f=>Cbz 88 #[.slice b d e,.string (ByteArray.mk #[116])] f fun b d=>∃e:World→Prop,Ifz b (Lpz 51 a 0 d (fun a b=>Cvv 89 #[.pointer (some ⟨a,b,none⟩),.string (ByteArray.mk #[116])] d fun a b=>Nez .neq 58 (.tmp 28) a b fun c=>Ifz c (R (.returned a) b) (e b))) (e d)∧∀b,e b→Liz 3 c 0 b fun c=>Csz 30 #[.int .i64 c] b fun b c=>Alz 9 c fun c d=>Stz 9 c 0 (.string b) d fun b=>∃d e,(Instr.makeFunc (.func 186) #[] #[.pointer (some ⟨a,0,none⟩)]).run Tryz.prog b=.ok d e∧∃b f,(Instr.makeFunc (.func 187) #[] #[.pointer (some ⟨a,0,none⟩),.pointer (some ⟨g,0,none⟩)]).run Tryz.prog e=.ok b f∧∃e g,(Instr.makeFunc (.func 188) #[] #[.pointer (some ⟨a,0,none⟩)]).run Tryz.prog f=.ok e g∧Lpz 51 a 0 g fun f h=>∃i j,(Instr.makeFunc (.func 84) #[.pointer (some ⟨f,h,none⟩)] #[]).run Tryz.prog g=.ok i j∧∃f g,(Instr.makeFunc (.func 189) #[] #[.pointer (some ⟨a,0,none⟩),.pointer (some ⟨c,0,none⟩)]).run Tryz.prog j=.ok f g∧Buz 279 #[(0,d),(1,b),(2,e),(3,i),(4,f)] g fun b=>∃(d:Int→World→Prop) (e:Int→World→Nat),d 0 g∧∀f g,d f g→Ifz (decide (f<(5:Int))) (∃a,(Instr.index 279 (.agg b) (.int .i64 f)).run Tryz.prog g=.ok a g∧∃(b:Nat) (c:List Value) (h:List Value),a=.func (.func b) ⟨c⟩ ⟨h⟩∧gN Tryz.prog b=true∧Calls Tryz.prog b (c++([]:List Value)++h).toArray g fun a b=>∃c,a=.returned c∧Nez .neq 58 (.tmp 46) c b fun a=>Ifz a (R (.returned c) b) (d (IntKind.wrap .i64 (f+1)) b∧e (IntKind.wrap .i64 (f+1)) b<e f g)) (Lpz 51 a 0 g (fun b d=>Cvv 84 #[.pointer (some ⟨b,d,none⟩)] g fun b d=>∃e:Bool→World→Prop,Nez .eql 58 (.tmp 52) b d (fun a=>Ifz a (e true d) (Cbz 90 #[b,.iface 65 (.int .i64 1)] d (fun a b=>e a b)))∧∀d f,e d f→Ifz d (R (.returned b) f) (Lpz 51 a 0 f (fun a d=>Lsz 9 c 0 f fun c=>Cvv 191 #[.pointer (some ⟨a,d,none⟩),.string c,b] f fun a b=>R (.returned a) b))))))):Calls Tryz.prog 92 #[.pointer (some ⟨a,b,none⟩),.agg c,.agg d] w R:=aa 0x191415363c002d301414d0426ec143114117a176c1a220191463c2b002d30431c0191ca1c0193c8200321d011591195921c163980183959563959595c2067514031c0002d30431c0191463c30053a119163a041471463c2002d30431c20167e97248383c01777c Tryz.func92 (by kernel_rfl) h
theorem qv (a b:Nat) (h:Lpz 51 a b w fun a b=>Cvv 144 #[.pointer (some ⟨a,b,none⟩),.string (ByteArray.mk #[116])] w fun a b=>R (.returned a) b):Calls Tryz.prog 186 #[.pointer (some ⟨a,b,none⟩)] w R:=aa 0x191463c1d Tryz.func186 (by kernel_rfl) h
theorem qw (a b c d:Nat) (h:Lpz 51 a b w fun a b=>Llz 26 c d w fun c d e=>Bsz 24 1 #[(0,.slice c d e)] w fun c d e f=>Cvv 145 #[.pointer (some ⟨a,b,none⟩),.string (ByteArray.mk #[116]),.slice c d e] f fun a b=>R (.returned a) b):Calls Tryz.prog 187 #[.pointer (some ⟨a,b,none⟩),.pointer (some ⟨c,d,none⟩)] w R:=aa 0x1914757363c1d Tryz.func187 (by kernel_rfl) h
theorem pZ (a b:Nat) (h:Lpz 51 a b w fun a b=>Cvv 146 #[.pointer (some ⟨a,b,none⟩),.string (ByteArray.mk #[116])] w fun a b=>R (.returned a) b):Calls Tryz.prog 188 #[.pointer (some ⟨a,b,none⟩)] w R:=aa 0x191463c1d Tryz.func188 (by kernel_rfl) h
theorem p9 (a b c d:Nat) (h:Lpz 51 a b w fun a b=>Lsz 9 c d w fun c=>Cvv 190 #[.pointer (some ⟨a,b,none⟩),.string (ByteArray.mk #[116]),.string c] w fun a b=>R (.returned a) b):Calls Tryz.prog 189 #[.pointer (some ⟨a,b,none⟩),.pointer (some ⟨c,d,none⟩)] w R:=aa 0x19145363c1d Tryz.func189 (by kernel_rfl) h
theorem wm (a:Array Value) (h:Bxz 47 (.agg a) w fun a b=>Alz 47 b fun b c=>∃d:World→Prop,d c.drew∧∃e f g,(∀b,d b→LdQ 25 a 7 (.slice e f g) b)∧∃h i j,(∀b,d b→LdQ 45 a 8 (.slice h i j) b)∧Clz 109 #[.slice e f g] c.drew fun c e f g=>∃k:World→Prop,(∀a,k a→d a)∧k g∧Clz 110 #[.slice h i j] g fun d g h i=>∃j:World→Prop,(∀a,j a→k a)∧j i∧Stz 25 a 7 (.slice c e f) i fun c=>Stz 45 a 8 (.slice d g h) c fun c=>Laz 47 a 0 c fun a=>Stz 47 b 0 (.agg a) c fun a=>∃c,(loadVar 47 ⟨b,0,none⟩).run Tryz.prog a=.ok c a∧R (.returned c) a):Calls Tryz.prog 40 #[.agg a] w R:=aa 0x683c3710419401814747185406171824743713302252077c Tryz.func40 (by kernel_rfl) h
theorem eZ (a:Option Addr) (b c:Nat) (h:Ifz a.isNone (R (.returned (.slice none 0 0)) w) (Bsz 25 0 #[] w (fun d e f g=>Apz 25 (.slice d e f) (.slice a b c) g fun a b c d=>R (.returned (.slice a b c)) d))):Calls Tryz.prog 109 #[.slice a b c] w R:=aa 0x175175c001d32d21d Tryz.func109 (by kernel_rfl) h
theorem ig (a:Option Addr) (b c:Nat) (h:Ifz a.isNone (R (.returned (.slice none 0 0)) w) (Bsz 45 0 #[] w (fun d e f g=>Apz 45 (.slice d e f) (.slice a b c) g fun a b c d=>R (.returned (.slice a b c)) d))):Calls Tryz.prog 110 #[.slice a b c] w R:=aa 0x175175c001d32d21d Tryz.func110 (by kernel_rfl) h
theorem ij (a:Option Addr) (b c:Nat) (d:ByteArray) (h:Ciz 183 #[.slice a b c,.string d] w fun a b=>R (.returned (.bool (decide (a≥(0:Int))))) b):Calls Tryz.prog 88 #[.slice a b c,.string d] w R:=aa 0xd014dc1d Tryz.func88 (by kernel_rfl) h
theorem jx (a:Option Addr) (b c:Nat) (d:ByteArray) (h:∃(c:Int→World→Prop) (e:Int→World→Nat),c 0 w∧∀f g,c f g→Ifz (decide (f<(b:Int))) (∃h i,a=some ⟨h,i,none⟩∧0≤f∧f<(b:Int)∧Lsz 9 h (i+Int.toNat f*1) g fun a=>Ifz (d.toList==a.toList) (R (.returned (.int .i64 f)) g) (c (IntKind.wrap .i64 (f+1)) g∧e (IntKind.wrap .i64 (f+1)) g<e f g)) (R (.returned (.int .i64 (-1))) g)):Calls Tryz.prog 183 #[.slice a b c,.string d] w R:=aa 0x1d2b002d301538ec2d8200321d0111811b18242983d21d Tryz.func183 (by kernel_rfl) h
end Go.Proofs.YtpmhjnhgpplmnaaGreatDoor
end

section
namespace Go.Proofs.YtpmhjnhgpplmnaaGreatDoor
open Go Sx
set_option maxRecDepth 8000

def Ap (n:Int):Bool:=decide (1≤n∧n≤1099511627776)
theorem jU {n:Int} :Ap n=true↔1≤n∧n≤1099511627776:=by simp [Ap]
theorem IQ (c:UInt8) (r:List UInt8):(⟨(c::r).toArray⟩:ByteArray).extract 1 (⟨(c::r).toArray⟩:ByteArray).size=⟨r.toArray⟩:=by
 apply ByteArray.ext
 rw [ByteArray.data_extract]
 apply Array.ext'
 have:(⟨(c::r).toArray⟩:ByteArray).size=r.length+1:=by show (c::r).toArray.size=_;simp
 rw [this]
 simp
theorem Kv (l:List UInt8):((⟨l.toArray⟩:ByteArray).size:Int)=(l.length:Int):=by show ((l.toArray.size:Nat):Int)=_;simp

theorem mD (n:Int) (hb: -9223372036854775808≤n∧n≤9223372036854775807) (w:World) (hT:jr w):Calls Tryz.prog 30 #[.int .i64 n] w fun e w'=>e=.returned (aJ (if Ap n then aV 99 n else []))∧Chg [] w w':=by
 apply wu
 refine ⟨fun h=>?_,fun h=>?_⟩
 · have:Ap n=false:=by
     rw [Bool.eq_false_iff]
     intro hg
     have:=jU.1 hg
     simp at h;omega
   rw [this];exact ⟨rfl,Chg.refl _ _⟩
 · have hn:1≤n∧n≤1099511627776:=by simp at h;omega
   rw [jU.2 hn]
   refine (AJ n hb w hT).mono ?_
   rintro e w1 ⟨rfl,c1⟩
   have hl:=Lib.itoa_length_le n (by omega) (by omega)
   exact ⟨_,rfl,_,Oy [99] (Lib.itoa n) _ _ w1 (by simp;omega),rfl,c1⟩
theorem De (s:List UInt8) (hs:s.length≤281474976710656) (w:World) (hT:jr w) (hE:rV w):Calls Tryz.prog 26 #[aJ s] w fun e w'=>e=.returned (.tuple #[.int .i64 ((zx 99 1 1099511627776 s).getD 0),.bool (zx 99 1 1099511627776 s).isSome])∧Chg [] w w':=by
 obtain ⟨mI,hI⟩:=eI
 apply y6
 rw [JT]
 refine ⟨fun h=>?_,fun h=>?_⟩
 · have:s=[]:=by simpa using h
   subst this
   exact ⟨rfl,Chg.refl _ _⟩
 cases s with
 | nil=>simp at h
 | cons c r=>
 have hx:(⟨(c::r).toArray⟩:ByteArray).extract (Int.toNat 1) (⟨(c::r).toArray⟩:ByteArray).size=⟨r.toArray⟩:=IQ c r
 have hlen:(c::r).length=r.length+1:=rfl
 rw [hx]
 refine ⟨by omega,by rw [Kv,hlen];omega,(H9 r (by omega) w hE).mono ?_⟩
 rintro e w1 ⟨c1,⟨v,hv,rfl⟩ | ⟨hbad,v,t,p,rfl⟩⟩
 · have hvb:=Lib.atoiAll_bounds hv
   refine ⟨_,_,rfl,fun x w'=>x= !decide (1≤v∧v≤1099511627776∧aV 99 v=c::r)∧Chg [] w w',⟨_,au hI none _ _,fun h=>by simp at h,fun _=>(mD v (by omega) w1 (hT.an c1)).mono ?_⟩,?_⟩
   · rintro e w2 ⟨rfl,c2⟩
     refine ⟨_,rfl,?_,c1.trans c2⟩
     rw [Oe]
     congr 1
     cases hg:Ap v with
     | true=>
       have:=jU.1 hg
       simp [this.1,this.2]
     | false=>
       have:¬(1≤v∧v≤1099511627776):=fun h=>by rw [jU.2 h] at hg;cases hg
       simp only [Bool.false_eq_true,if_false]
       have h2:¬(1≤v∧v≤1099511627776∧aV 99 v=c::r):=fun h=>this ⟨h.1,h.2.1⟩
       simp [h2]
   · rintro x w3 ⟨rfl,c3⟩
     have hn:zx 99 1 1099511627776 (c::r)=if 1≤v∧v≤1099511627776∧aV 99 v=c::r then some v else none:=by unfold zx;simp only [hv]
     refine ⟨fun h=>⟨?_,c3⟩,fun h=>⟨?_,c3⟩⟩
     · have:¬(1≤v∧v≤1099511627776∧aV 99 v=c::r):=of_decide_eq_false (by rwa [Bool.not_eq_true'] at h)
       rw [hn,if_neg this];rfl
     · have:1≤v∧v≤1099511627776∧aV 99 v=c::r:=of_decide_eq_true (by rwa [Bool.not_eq_false'] at h)
       rw [hn,if_pos this];rfl
 · have hn:zx 99 1 1099511627776 (c::r)=none:=by
     unfold zx
     cases ha:Lib.atoiAll r with
     | ok u=>exact absurd ha (hbad u)
     | range=>simp only [ha]
     | _=>simp only [ha]
   rw [hn]
   refine ⟨_,_,rfl,fun x w'=>x=true∧w'=w1,⟨_,K5 hI _ _ _ _,fun _=>⟨rfl,rfl⟩,fun h=>by cases h⟩,?_⟩
   rintro x w3 ⟨rfl,rfl⟩
   exact ⟨fun _=>⟨rfl,c1⟩,fun h=>(by cases h)⟩

theorem NF {l:List UInt8} {i:Nat} (hi:i<l.length) (w:World):(Instr.index 9 (.string ⟨l.toArray⟩) (.int .i64 (i:Int))).run Tryz.prog w=.ok (.int .u8 ((l.getD i 0).toNat:Int)) w:=by
 have h1:(⟨l.toArray⟩:ByteArray)[i]?=some (l.getD i 0):=by
   have h2:i<(⟨l.toArray⟩:ByteArray).size:=by show i<l.toArray.size;simpa using hi
   rw [getElem?_pos _ i h2]
   show some (l.toArray[i]'(by simpa using hi))=_
   simp [List.getD,hi]
 have h0:(0:Int)≤(i:Int):=by omega
 simp only [Instr.index,Sem.run_bind,asIntOf,Sem.run_pure,run_underlying sS,Result.andThen_ok,h0,if_true,Int.toNat_natCast,h1]

end Go.Proofs.YtpmhjnhgpplmnaaGreatDoor
end

section
namespace Go.Proofs.YtpmhjnhgpplmnaaGreatDoor.Gf2

def aD (a b:Nat):Nat:=if h:b=0 then 0 else (if b%2=1 then a else 0)^^^(2*aD a (b / 2))
termination_by b
decreasing_by exact Nat.div_lt_self (Nat.pos_of_ne_zero h) (by decide)

theorem jA {P:Nat→Prop} (h0:P 0) (h:∀b,b≠0→P (b / 2)→P b):∀b,P b:=fun b=>by
 induction b using Nat.strongRecOn with
 | ind b ih=>
   by_cases hb:b=0
   · rw [hb];exact h0
   · exact h b hb (ih _ (Nat.div_lt_self (Nat.pos_of_ne_zero hb) (by decide)))

@[simp] theorem NB (a:Nat):aD a 0=0:=by rw [aD];simp
theorem bO (a b:Nat):aD a b=(if b%2=1 then a else 0)^^^(2*aD a (b / 2)):=by
 by_cases hb:b=0
 · subst hb;simp
 · rw [aD,dif_neg hb]
@[simp] theorem xQ (a:Nat):aD a 1=a:=by rw [bO];simp
theorem wG (x y:Nat):2*(x^^^y)=(2*x)^^^(2*y):=by
 have:=Nat.shiftLeft_xor_distrib (a:=x) (b:=y) (i:=1)
 simpa [Nat.shiftLeft_eq,Nat.mul_comm] using this
theorem kG (a b:Nat):aD a (2*b)=2*aD a b:=by
 rw [bO];simp
@[simp] theorem NC (b:Nat):aD 0 b=0:=by
 induction b using jA with
 | h0=>simp
 | h b _ ih=>rw [bO,ih];simp
theorem AU (a b c d:Nat):(a^^^b)^^^(c^^^d)=(a^^^c)^^^(b^^^d):=by
 rw [Nat.xor_assoc,Nat.xor_assoc,←Nat.xor_assoc b,Nat.xor_comm b c,Nat.xor_assoc]
theorem fk (a c b:Nat):aD (a^^^c) b=aD a b^^^aD c b:=by
 induction b using jA with
 | h0=>simp
 | h b _ ih=>
   rw [bO (a^^^c),bO a,bO c,ih,wG,AU]
   congr 1
   split<;>simp
theorem Jh (a b:Nat):aD (2*a) b=2*aD a b:=by
 induction b using jA with
 | h0=>simp
 | h b _ ih=>
   rw [bO (2*a),bO a,ih,wG]
   congr 1
   split<;>simp
theorem pP (b:Nat):b=(if b%2=1 then 1 else 0)^^^(2*(b / 2)):=by
 refine Nat.eq_of_testBit_eq fun i=>?_
 rw [Nat.testBit_xor]
 cases i with
 | zero=>
   simp only [Nat.testBit_zero]
   rcases Nat.mod_two_eq_zero_or_one b with h | h<;>simp [h]
 | succ i=>
   rw [Nat.testBit_succ,Nat.testBit_succ (2*(b / 2)),Nat.mul_div_cancel_left _ (by decide:0<2)]
   split<;>simp [Nat.testBit_succ]
theorem gB (a b c:Nat):aD a (b^^^c)=aD a b^^^aD a c:=by
 induction b using jA generalizing c with
 | h0=>simp
 | h b _ ih=>
   rw [bO a (b^^^c),bO a b,bO a c,Nat.xor_div_two,ih,wG,AU]
   congr 1
   have hx:decide ((b^^^c)%2=1)=(decide (b%2=1)^^decide (c%2=1)):=by
     rw [←Nat.testBit_zero,←Nat.testBit_zero,←Nat.testBit_zero,Nat.testBit_xor]
   by_cases h1:b%2=1<;>by_cases h2:c%2=1<;>simp [h1,h2] at hx<;>simp [h1,h2]
@[simp] theorem mj (b:Nat):aD 1 b=b:=by
 induction b using jA with
 | h0=>simp
 | h b _ ih=>rw [bO,ih,←pP]
theorem eB (a b:Nat):aD a b=aD b a:=by
 induction b using jA with
 | h0=>simp
 | h b _ ih=>
   rw [bO,ih]
   conv=>rhs;rw [pP b]
   rw [fk,Jh]
   congr 1
   split<;>simp
theorem cM (a b c:Nat):aD (aD a b) c=aD a (aD b c):=by
 induction c using jA with
 | h0=>simp
 | h c _ ih=>
   rw [bO (aD a b) c,bO b c,gB,kG,ih]
   congr 1
   split<;>simp

theorem nr (x:Nat):aD x 2=2*x:=by
 have:=kG x 1
 simpa using this
theorem Fi (y b d:Nat):(y^^^b)^^^(b^^^d)=y^^^d:=by
 rw [Nat.xor_assoc,←Nat.xor_assoc b,Nat.xor_self,Nat.zero_xor]
theorem Pb (a p q c:Nat):(a^^^p)^^^c=(a^^^(p^^^q))^^^(q^^^c):=by
 rw [←Nat.xor_assoc a p q,Fi]

def aR (a d:Nat):Prop:=2^d≤a∧a<2^(d+1)
theorem aF {a:Nat} (h:a≠0):aR a a.log2:=⟨Nat.log2_self_le h,Nat.lt_log2_self⟩
theorem aR.ne {a d:Nat} (h:aR a d):a≠0:=by have:=Nat.two_pow_pos d;have:=h.1;omega
theorem aR.uniq {a d e:Nat} (h:aR a d) (h':aR a e):d=e:=by
 rcases Nat.lt_trichotomy d e with hl | hl | hl
 · have:=Nat.pow_le_pow_right (show 0<2 by decide) (show d+1≤e from hl);have:=h.2;have:=h'.1;omega
 · exact hl
 · have:=Nat.pow_le_pow_right (show 0<2 by decide) (show e+1≤d from hl);have:=h'.2;have:=h.1;omega
theorem Bj {a d:Nat} (h:aR a d):a.testBit d=true:=by
 rw [Nat.testBit_eq_decide_div_mod_eq]
 have:a / 2^d=1:=by
   have hp:=Nat.two_pow_pos d
   rw [Nat.div_eq_iff hp]
   have:=h.1;have:=h.2;rw [Nat.pow_succ] at this;omega
 rw [this];rfl
theorem aR.fR {a b d:Nat} (h:aR a d) (hb:b<2^d):aR (a^^^b) d:=by
 have hb':b<2^(d+1):=by rw [Nat.pow_succ];omega
 refine ⟨Nat.le_of_not_lt fun hl=>?_,Nat.xor_lt_two_pow h.2 hb'⟩
 have h1:(a^^^b).testBit d=false:=Nat.testBit_lt_two_pow hl
 rw [Nat.testBit_xor,Bj h,Nat.testBit_lt_two_pow hb] at h1
 cases h1
theorem aR.nV {a b d:Nat} (h:aR a d) (hb:aR b d):a^^^b<2^d:=by
 refine Nat.lt_pow_two_of_testBit _ fun i hi=>?_
 rw [Nat.testBit_xor]
 by_cases he:i=d
 · subst he;rw [Bj h,Bj hb];rfl
 · have hl:2^(d+1)≤2^i:=Nat.pow_le_pow_right (by decide) (by omega)
   rw [Nat.testBit_lt_two_pow (Nat.lt_of_lt_of_le h.2 hl),Nat.testBit_lt_two_pow (Nat.lt_of_lt_of_le hb.2 hl)];rfl
theorem aR.aD {a m:Nat} (ha:aR a m):∀(n b:Nat),aR b n→aR (Gf2.aD a b) (m+n)
 | 0,b,hb=>by
   have:b=1:=by have:=hb.1;have:=hb.2;omega
   subst this;simpa using ha
 | n+1,b,hb=>by
   have h2:aR (b / 2) n:=by
     have h1:=hb.1;have h2:=hb.2
     rw [Nat.pow_succ] at h1 h2
     constructor<;>omega
   have ih:=aR.aD ha n (b / 2) h2
   rw [bO,Nat.xor_comm]
   have hD:aR (2*Gf2.aD a (b / 2)) (m+(n+1)):=by
     have h1:=ih.1;have h3:=ih.2
     rw [show m+(n+1)=(m+n)+1 by omega]
     refine ⟨by rw [Nat.pow_succ];omega,?_⟩
     rw [Nat.pow_succ];omega
   refine hD.fR ?_
   split
   · exact Nat.lt_of_lt_of_le ha.2 (Nat.pow_le_pow_right (by decide) (by omega))
   · exact Nat.two_pow_pos _
theorem oD {a b:Nat} (h:a^^^b=0):a=b:=by
 have:=congrArg (· ^^^b) h
 simpa [Nat.xor_assoc] using this

def Dv (f a:Nat):Prop:=∃q,a=aD f q
theorem Dv.zero (f:Nat):Dv f 0:=⟨0,by simp⟩
theorem Dv.self (f:Nat):Dv f f:=⟨1,by simp⟩
theorem Dv.one (f:Nat):Dv 1 f:=⟨f,by simp⟩
theorem Dv.xor {f a b:Nat} (h:Dv f a) (h':Dv f b):Dv f (a^^^b):=by
 obtain ⟨q,rfl⟩:=h
 obtain ⟨r,rfl⟩:=h'
 exact ⟨q^^^r,(gB _ _ _).symm⟩
theorem Dv.mul {f a:Nat} (h:Dv f a) (b:Nat):Dv f (aD a b):=by
 obtain ⟨q,rfl⟩:=h
 exact ⟨aD q b,cM _ _ _⟩
theorem Dv.mul' {f a:Nat} (h:Dv f a) (b:Nat):Dv f (aD b a):=by rw [eB];exact h.mul b
theorem Dv.trans {f g h:Nat} (h1:Dv f g) (h2:Dv g h):Dv f h:=by
 obtain ⟨q,rfl⟩:=h2
 exact h1.mul q
theorem Dv.Bx {f a b:Nat} (h:Dv f (a^^^b)) (h':Dv f b):Dv f a:=by
 have:=h.xor h'
 rwa [Nat.xor_assoc,Nat.xor_self,Nat.xor_zero] at this
theorem Dv.lt {f a d:Nat} (hf:aR f d) (h:Dv f a) (ha:a<2^d):a=0:=by
 obtain ⟨q,rfl⟩:=h
 by_cases hq:q=0
 · subst hq;simp
 · have h1:=(aR.aD hf _ _ (aF hq)).1
   have h2:2^d≤2^(d+q.log2):=Nat.pow_le_pow_right (by decide) (by omega)
   omega
theorem Jn {f:Nat} (h:Dv f 1):f=1:=by
 obtain ⟨q,hq⟩:=h
 have hf:f≠0:=by rintro rfl;simp at hq
 have hq0:q≠0:=by rintro rfl;simp at hq
 have h1:=aR.aD (aF hf) _ _ (aF hq0)
 rw [←hq] at h1
 have h2:aR 1 0:=⟨by decide,by decide⟩
 have h3:=h1.uniq h2
 have h4:=(aF hf).2
 have h5:=(aF hf).1
 have h6:f.log2=0:=by omega
 rw [h6] at h4 h5
 omega

structure fF (m d a r:Nat):Prop where
 lt:r<2^d
 dv:Dv m (a^^^r)
theorem fF.uniq {m d a r r':Nat} (hm:aR m d) (h:fF m d a r) (h':fF m d a r'):r=r':=by
 have h1:=h.dv.xor h'.dv
 rw [AU,Nat.xor_self,Nat.zero_xor] at h1
 exact oD (h1.lt hm (Nat.xor_lt_two_pow h.lt h'.lt))
theorem El (a i:Nat):aD a (2^i)=a*2^i:=by
 induction i with
 | zero=>simp
 | succ i ih=>rw [Nat.pow_succ,Nat.mul_comm _ 2,kG,ih,Nat.mul_left_comm]
theorem mV (m k:Nat):Dv m (m*2^k):=⟨2^k,(El m k).symm⟩
theorem aR.shift {m d:Nat} (h:aR m d) (k:Nat):aR (m*2^k) (d+k):=by
 refine ⟨?_,?_⟩
 · rw [Nat.pow_add];exact Nat.mul_le_mul_right _ h.1
 · rw [show d+k+1=(d+1)+k by omega,Nat.pow_add];exact (Nat.mul_lt_mul_right (Nat.two_pow_pos k)).2 h.2
theorem Dg (a s r:Nat):((a^^^s)^^^r)^^^s=a^^^r:=by
 rw [Nat.xor_assoc,Nat.xor_comm r s,←Nat.xor_assoc,Nat.xor_assoc a,Nat.xor_self,Nat.xor_zero]
theorem xG {m d:Nat} (hm:aR m d) (a:Nat):∃r,fF m d a r:=by
 induction a using Nat.strongRecOn with
 | ind a ih=>
   by_cases ha:a<2^d
   · exact ⟨a,ha,by rw [Nat.xor_self];exact Dv.zero m⟩
   · have ha0:a≠0:=by have:=Nat.two_pow_pos d;omega
     have hd:=aF ha0
     have hle:d≤a.log2:=Nat.le_of_not_lt fun hl=>ha (Nat.lt_of_lt_of_le hd.2 (Nat.pow_le_pow_right (by decide) hl))
     have hs:aR (m*2^(a.log2-d)) a.log2:=by
       have:=hm.shift (a.log2-d)
       rwa [show d+(a.log2-d)=a.log2 by omega] at this
     obtain ⟨r,hr⟩:=ih (a^^^(m*2^(a.log2-d))) (Nat.lt_of_lt_of_le (hd.nV hs) hd.1)
     refine ⟨r,hr.lt,?_⟩
     have h1:=hr.dv.xor (mV m (a.log2-d))
     rwa [Dg] at h1

def Irr (f:Nat):Prop:=2≤f∧∀a b,f=aD a b→a=1∨b=1
theorem Mv {f:Nat} (hf:Irr f) {a:Nat} (ha:¬Dv f a):∃u v,aD f u^^^aD a v=1:=by
 have step:∀n,n≠0→(∃u v,aD f u^^^aD a v=n)→∃u v,aD f u^^^aD a v=1:=by
   intro n
   induction n using Nat.strongRecOn with
   | ind n ih=>
     intro hn hI
     have hd:=aF hn
     have red:∀x,(∃u v,aD f u^^^aD a v=x)→Dv n x∨∃r,r≠0∧r<n∧∃u v,aD f u^^^aD a v=r:=by
       intro x hx
       obtain ⟨r,hr⟩:=xG hd x
       obtain ⟨q,hq⟩:=hr.dv
       by_cases h0:r=0
       · left;subst h0;rw [Nat.xor_zero] at hq;exact ⟨q,hq⟩
       · right
         refine ⟨r,h0,Nat.lt_of_lt_of_le hr.lt hd.1,?_⟩
         obtain ⟨u,v,e1⟩:=hI
         obtain ⟨u2,v2,e2⟩:=hx
         refine ⟨u2^^^aD u q,v2^^^aD v q,?_⟩
         rw [gB,gB,AU,e2,←cM,←cM,←fk,e1,←hq,←Nat.xor_assoc,Nat.xor_self,Nat.zero_xor]
     rcases red f ⟨1,0,by simp⟩ with h1 | ⟨r,h0,hl,hr⟩
     · rcases red a ⟨0,1,by simp⟩ with h2 | ⟨r,h0,hl,hr⟩
       · obtain ⟨q,hq⟩:=h1
         rcases hf.2 _ _ hq with h | h
         · rw [h] at hI;exact hI
         · rw [h,xQ] at hq;rw [←hq] at h2;exact absurd h2 ha
       · exact ih r hl h0 hr
     · exact ih r hl h0 hr
 exact step f (by have:=hf.1;omega) ⟨1,0,by simp⟩
theorem Irr.prime {f:Nat} (hf:Irr f) {a b:Nat} (h:Dv f (aD a b)):Dv f a∨Dv f b:=by
 by_cases ha:Dv f a
 · exact .inl ha
 · right
   obtain ⟨u,v,e⟩:=Mv hf ha
   have h1:Dv f (aD (aD f u^^^aD a v) b):=by
     rw [fk]
     refine (((Dv.self f).mul u).mul b).xor ?_
     rw [cM,eB v b,←cM];exact h.mul v
   rw [e,mj] at h1;exact h1
theorem Irr.Gx {f:Nat} (hf:Irr f):¬Dv f 1:=fun h=>by have:=Jn h;have:=hf.1;omega
theorem MP {f a d e:Nat} (h:Dv f a) (hd:aR f d) (he:aR a e):d≤e:=by
 obtain ⟨q,rfl⟩:=h
 have hq:q≠0:=by rintro rfl;exact he.ne (by simp)
 have:=(aR.aD hd _ _ (aF hq)).uniq he
 omega
theorem Hh {a:Nat} (h0:a≠0) (h1:a≠1):1≤a.log2:=by
 refine Nat.le_of_not_lt fun hl=>?_
 have:=(aF h0).2
 rw [show a.log2=0 by omega] at this
 omega
theorem Dz {p:Nat} (hp:2≤p) (h:¬Irr p):∃a b,p=aD a b∧a≠0∧a≠1∧b≠0∧b≠1:=by
 apply Classical.byContradiction
 intro hn
 refine h ⟨hp,fun a b e=>?_⟩
 by_cases ha:a=1
 · exact .inl ha
 by_cases hb:b=1
 · exact .inr hb
 exact absurd ⟨a,b,e,by rintro rfl;simp at e;omega,ha,by rintro rfl;simp at e;omega,hb⟩ hn
theorem EX (p:Nat) (hp:2≤p):∃f,Irr f∧Dv f p:=by
 induction p using Nat.strongRecOn with
 | ind p ih=>
   by_cases h:Irr p
   · exact ⟨p,h,Dv.self p⟩
   · obtain ⟨a,b,e,a0,a1,b0,b1⟩:=Dz hp h
     have hD:=aR.aD (aF a0) _ _ (aF b0)
     rw [←e] at hD
     have hb:=Hh b0 b1
     have hl:a<p:=by
       have h1:=(aF a0).2
       have h2:2^(a.log2+1)≤2^(a.log2+b.log2):=Nat.pow_le_pow_right (by decide) (by omega)
       have h3:=hD.1
       omega
     obtain ⟨f,h1,h2⟩:=ih a hl (by omega)
     exact ⟨f,h1,by rw [e];exact h2.mul b⟩
theorem AM {p n:Nat} (hp:aR p n) (hn:1≤n) (h:¬Irr p):∃f d,Irr f∧Dv f p∧aR f d∧1≤d∧2*d≤n:=by
 have hp2:2≤p:=by
   have h1:=hp.1
   have h2:2^1≤2^n:=Nat.pow_le_pow_right (by decide) hn
   omega
 obtain ⟨a,b,e,a0,a1,b0,b1⟩:=Dz hp2 h
 have hD:=aR.aD (aF a0) _ _ (aF b0)
 rw [←e] at hD
 have hs:=hD.uniq hp
 have key:∀x y,x≠0→x≠1→p=aD x y→2*x.log2≤n→∃f d,Irr f∧Dv f p∧aR f d∧1≤d∧2*d≤n:=by
   intro x y x0 x1 ex hx
   obtain ⟨f,h1,h2⟩:=EX x (by omega)
   have hf0:f≠0:=by have:=h1.1;omega
   have:=MP h2 (aF hf0) (aF x0)
   exact ⟨f,f.log2,h1,by rw [ex];exact h2.mul y,aF hf0,Hh hf0 (by have:=h1.1;omega),by omega⟩
 by_cases hle:a.log2≤b.log2
 · exact key a b a0 a1 e (by omega)
 · exact key b a b0 b1 (by rw [eB];exact e) (by omega)

def sqs (a:Nat):Nat→Nat
 | 0=>a
 | i+1=>aD (sqs a i) (sqs a i)
theorem JQ (a b:Nat):aD (a^^^b) (a^^^b)=aD a a^^^aD b b:=by
 rw [gB,fk,fk,eB b a,Nat.xor_comm (aD a b) (aD b b),AU,Nat.xor_self,Nat.xor_zero]
theorem Bu (a b:Nat):∀i,sqs (a^^^b) i=sqs a i^^^sqs b i
 | 0=>rfl
 | i+1=>by rw [sqs,Bu a b i,JQ];rfl
theorem Oz (a b c d:Nat):aD (aD a b) (aD c d)=aD (aD a c) (aD b d):=by
 rw [cM,cM,←cM b,eB b c,cM]
theorem Gy (a b:Nat):∀i,sqs (aD a b) i=aD (sqs a i) (sqs b i)
 | 0=>rfl
 | i+1=>by rw [sqs,Gy a b i,Oz];rfl
theorem Gl (a i:Nat):∀j,sqs (sqs a i) j=sqs a (i+j)
 | 0=>rfl
 | j+1=>by rw [sqs,Gl a i j];rfl
theorem Dv.sqs {f a:Nat} (h:Dv f a):∀i,Dv f (Gf2.sqs a i)
 | 0=>h
 | i+1=>(Dv.sqs h i).mul _
theorem yN:∀i,sqs 0 i=0
 | 0=>rfl
 | i+1=>by rw [sqs,yN i];simp
theorem GL:∀i,sqs 1 i=1
 | 0=>rfl
 | i+1=>by rw [sqs,GL i];simp
theorem LP {f r:Nat} (h:Dv f (sqs 2 r^^^2)) (a:Nat):Dv f (sqs a r^^^a):=by
 induction a using jA with
 | h0=>rw [yN];exact Dv.zero f
 | h a _ ih=>
   have e:a=(if a%2=1 then 1 else 0)^^^aD 2 (a / 2):=by rw [eB,nr (a / 2)];exact pP a
   rw [e,Bu,AU]
   refine Dv.xor ?_ ?_
   · split
     · rw [GL];exact Dv.zero f
     · rw [yN];exact Dv.zero f
   · have e2:aD (sqs 2 r) (sqs (a / 2) r)^^^aD 2 (a / 2)=aD (sqs 2 r^^^2) (sqs (a / 2) r)^^^aD 2 (sqs (a / 2) r^^^a / 2):=by
       rw [fk,gB,←Nat.xor_assoc,Nat.xor_assoc (aD (sqs 2 r) _),Nat.xor_self,Nat.xor_zero]
     rw [Gy,e2]
     exact (h.mul _).xor (ih.mul' 2)

def ev (cs:List Nat) (y:Nat):Nat:=cs.foldl (fun s c=>aD s y^^^c) 0
theorem kY (cs:List Nat) (c y:Nat):ev (cs++ [c]) y=aD (ev cs y) y^^^c:=by simp [ev]
theorem BT (y:Nat):ev [1] y=1:=by simp [ev]
theorem synth (b:Nat):∀(n:Nat) (t:List Nat),t.length=n→∃t':List Nat,t'.length=n∧∀c y,ev ((1::t)++ [c]) y=aD (y^^^b) (ev (1::t') y)^^^ev ((1::t)++ [c]) b
 | 0,t,ht=>by
   have:t=[]:=List.eq_nil_of_length_eq_zero ht
   subst this
   refine ⟨[],rfl,fun c y=>?_⟩
   rw [kY,kY,BT,BT,mj,mj,xQ,Fi]
 | n+1,t,ht=>by
   rcases List.eq_nil_or_concat t with rfl | ⟨L,d,hc⟩
   · simp at ht
   · rw [List.concat_eq_append] at hc
     subst hc
     obtain ⟨t',hl,h⟩:=synth b n L (by simpa using ht)
     refine ⟨t'++ [ev ((1::L)++ [d]) b],by simp [hl],fun c y=>?_⟩
     have e1:(1::(L++ [d]))++ [c]=((1::L)++ [d])++ [c]:=by simp
     have e2:1::(t'++ [ev ((1::L)++ [d]) b])=(1::t')++ [ev ((1::L)++ [d]) b]:=by simp
     rw [e1,e2,kY _ c y,kY _ c b,kY (1::t') _ y,h d y]
     generalize ev ((1::L)++ [d]) b=P
     generalize ev (1::t') y=Q
     rw [fk (aD _ _) P y,cM,gB (y^^^b),fk y b P,eB y P,eB b P]
     exact Pb _ _ _ _
theorem roots {f:Nat} (hf:Irr f):∀(n:Nat) (t:List Nat),t.length=n→∀bs:List Nat,(bs.Pairwise fun a b=>¬Dv f (a^^^b))→(∀b∈bs,Dv f (ev (1::t) b))→bs.length≤n
 | 0,t,ht,bs,_,h=>by
   have:t=[]:=List.eq_nil_of_length_eq_zero ht
   subst this
   cases bs with
   | nil=>simp
   | cons b bs=>exact absurd (by have:=h b (by simp);rwa [BT] at this) hf.Gx
 | n+1,t,ht,bs,hp,h=>by
   cases bs with
   | nil=>simp
   | cons b bs=>
     rcases List.eq_nil_or_concat t with rfl | ⟨L,c,hc⟩
     · simp at ht
     · rw [List.concat_eq_append] at hc
       subst hc
       obtain ⟨t',hl,hs⟩:=synth b n L (by simpa using ht)
       obtain ⟨h1,h2⟩:=List.pairwise_cons.1 hp
       have:=roots hf n t' hl bs h2 fun y hy=>by
         have k1:=h y (by simp [hy])
         have k2:=h b (by simp)
         have e1:(1::(L++ [c]))=(1::L)++ [c]:=by simp
         rw [e1] at k1 k2
         rw [hs c y] at k1
         rcases hf.prime (k1.Bx k2) with k | k
         · rw [Nat.xor_comm] at k;exact absurd k (h1 y hy)
         · exact k
       simp;omega

def mW (y:Nat):Nat→Nat
 | 0=>1
 | k+1=>aD (mW y k) y
theorem CU (y i:Nat):∀j,mW y (i+j)=aD (mW y i) (mW y j)
 | 0=>by simp [mW]
 | j+1=>by rw [←Nat.add_assoc,mW,CU y i j,cM];rfl
theorem wV (y:Nat):∀r,sqs y r=mW y (2^r)
 | 0=>by simp [sqs,mW]
 | r+1=>by rw [sqs,wV y r,←CU,Nat.pow_succ,Nat.mul_two]
theorem Kk (y:Nat):∀k,ev (1::List.replicate k 0) y=mW y k
 | 0=>by rw [List.replicate_zero,BT];rfl
 | k+1=>by
   have e:(1::List.replicate (k+1) 0)=(1::List.replicate k 0)++ [0]:=by rw [List.replicate_succ'];simp
   rw [e,kY,Kk y k,Nat.xor_zero];rfl
theorem yz {f d r:Nat} (hf:Irr f) (hd:aR f d) (h0:1≤r) (h:Dv f (sqs 2 r^^^2)):d≤r:=by
 have hr2:2≤2^r:=by have:2^1≤2^r:=Nat.pow_le_pow_right (by decide) h0;omega
 have hl:=roots hf (2^r) ((List.replicate (2^r-2) 0++ [1])++ [0]) (by simp;omega) (List.range (2^d)) (by
   rw [List.pairwise_iff_getElem]
   intro i j hi hj hij hdv
   simp only [List.length_range] at hi hj
   simp only [List.getElem_range] at hdv
   have:=oD (hdv.lt hd (Nat.xor_lt_two_pow hi hj))
   omega) (fun y _=>by
   have e:1::((List.replicate (2^r-2) 0++ [1])++ [0])=((1::List.replicate (2^r-2) 0)++ [1])++ [0]:=by simp
   have e2:ev (((1::List.replicate (2^r-2) 0)++ [1])++ [0]) y=sqs y r^^^y:=by
     rw [kY,kY,Kk,Nat.xor_zero,fk,mj,wV,show 2^r=2^r-2+1+1 by omega];rfl
   rw [e,e2];exact LP h y)
 rw [List.length_range] at hl
 exact (Nat.pow_le_pow_iff_right (by decide)).1 hl

theorem vD:∀(l l':List Nat),l.Nodup→(∀x∈l,x∈l')→l'.length≤l.length→l.Perm l'
 | [],l',_,_,h=>by
   have:l'=[]:=List.eq_nil_of_length_eq_zero (by simpa using h)
   subst this;exact List.Perm.nil
 | a::l,l',hn,hs,h=>by
   have ha:a∈l':=hs a (by simp)
   have hp:=List.perm_cons_erase ha
   obtain ⟨h1,h2⟩:=List.nodup_cons.1 hn
   have:=vD l (l'.erase a) h2 (fun x hx=>by
     refine (List.mem_erase_of_ne ?_).2 (hs x (by simp [hx]))
     rintro rfl;exact h1 hx) (by rw [List.length_erase_of_mem ha];simp at h;omega)
   exact (this.cons a).trans hp.symm
def iK:List Nat→Nat
 | []=>1
 | a::l=>aD a (iK l)
theorem Fx {l l':List Nat} (h:l.Perm l'):iK l=iK l':=by
 induction h with
 | nil=>rfl
 | cons a _ ih=>simp [iK,ih]
 | swap a b l=>simp only [iK];rw [←cM,eB b a,cM]
 | trans _ _ h1 h2=>exact h1.trans h2
theorem Fu {f d:Nat} (hf:Irr f) (hd:aR f d):Dv f (sqs 2 d^^^2):=by
 by_cases h2:Dv f 2
 · exact (h2.sqs d).xor h2
 obtain ⟨g,hg⟩:=Classical.axiomOfChoice (xG hd)
 have hpos:=Nat.two_pow_pos d
 obtain ⟨L,hL⟩:∃L,List.range' 1 (2^d-1)=L:=⟨_,rfl⟩
 have hmem:∀x,x∈L↔1≤x∧x<2^d:=fun x=>by rw [←hL,List.mem_range'_1];omega
 have hnd:∀x∈L,¬Dv f x:=fun x hx h=>by
   have h1:=(hmem x).1 hx
   have:=h.lt hd h1.2;omega
 have hin:∀x∈L,g (aD 2 x)∈L:=fun x hx=>by
   refine (hmem _).2 ⟨Nat.pos_of_ne_zero fun h0=>?_,(hg _).lt⟩
   have h1:=(hg (aD 2 x)).dv
   rw [h0,Nat.xor_zero] at h1
   rcases hf.prime h1 with h | h
   · exact h2 h
   · exact hnd x hx h
 have hinj:∀x∈L,∀y∈L,g (aD 2 x)=g (aD 2 y)→x=y:=fun x hx y hy h=>by
   have h1:=(hg (aD 2 x)).dv.xor (hg (aD 2 y)).dv
   rw [h,AU,Nat.xor_self,Nat.xor_zero,←gB] at h1
   rcases hf.prime h1 with k | k
   · exact absurd k h2
   · exact oD (k.lt hd (Nat.xor_lt_two_pow ((hmem x).1 hx).2 ((hmem y).1 hy).2))
 have hnodL:L.Nodup:=by rw [←hL];exact List.nodup_range'
 have hperm:(L.map fun x=>g (aD 2 x)).Perm L:=by
   refine vD _ _ ?_ (fun x hx=>?_) (by simp)
   · rw [List.Nodup,List.pairwise_map]
     exact hnodL.imp_of_mem fun {x y} hx hy hne h=>hne (hinj x hx y hy h)
   · obtain ⟨y,hy,rfl⟩:=List.mem_map.1 hx;exact hin y hy
 have hprod:∀l:List Nat,Dv f (iK (l.map fun x=>g (aD 2 x))^^^aD (mW 2 l.length) (iK l)):=fun l=>by
   induction l with
   | nil=>simp [iK,mW];exact Dv.zero f
   | cons a l ih=>
     simp only [List.map_cons,iK,List.length_cons]
     have e:aD (mW 2 (l.length+1)) (aD a (iK l))=aD (aD 2 a) (aD (mW 2 l.length) (iK l)):=by
       rw [mW,eB (mW 2 l.length) 2,Oz]
     rw [e]
     have e2:aD (g (aD 2 a)) (iK (l.map fun x=>g (aD 2 x)))^^^aD (aD 2 a) (aD (mW 2 l.length) (iK l))=aD (aD 2 a^^^g (aD 2 a)) (iK (l.map fun x=>g (aD 2 x)))^^^aD (aD 2 a) (iK (l.map fun x=>g (aD 2 x))^^^aD (mW 2 l.length) (iK l)):=by
       rw [fk,gB,Nat.xor_comm (aD (aD 2 a) _) (aD (g _) _),←Nat.xor_assoc,Nat.xor_assoc (aD (g _) _),Nat.xor_self,Nat.xor_zero]
     rw [e2]
     exact ((hg _).dv.mul _).xor (ih.mul' _)
 have hLl:L.length=2^d-1:=by rw [←hL];simp
 have h3:=hprod L
 rw [Fx hperm,hLl] at h3
 have h4:Dv f (aD (1^^^mW 2 (2^d-1)) (iK L)):=by rw [fk,mj];exact h3
 have hnP:¬Dv f (iK L):=by
   have:∀l:List Nat,(∀x∈l,¬Dv f x)→¬Dv f (iK l):=fun l=>by
     induction l with
     | nil=>exact fun _=>hf.Gx
     | cons a l ih=>
       intro h hdv
       rcases hf.prime hdv with k | k
       · exact h a (by simp) k
       · exact ih (fun x hx=>h x (by simp [hx])) k
   exact this L hnd
 rcases hf.prime h4 with h | h
 · have h5:=h.mul 2
   rw [fk,mj] at h5
   have e:aD (mW 2 (2^d-1)) 2=sqs 2 d:=by
     rw [wV,show 2^d=2^d-1+1 by omega];rfl
   rw [e,Nat.xor_comm] at h5
   exact h5
 · exact absurd h hnP

def kj (p y:Nat):Prop:=∀h,Dv h p→Dv h y→h=1
theorem Ad {p y:Nat} (hp:Irr p):kj p y↔¬Dv p y:=by
 constructor
 · intro h hd
   have:=h p (Dv.self p) hd
   have:=hp.1
   omega
 · intro h x hx hy
   obtain ⟨q,hq⟩:=hx
   rcases hp.2 _ _ hq with k | k
   · exact k
   · rw [k,xQ] at hq;rw [←hq] at hy;exact absurd hy h
theorem Jc {f:Nat} (hf:Irr f) (h:f=1):False:=by have:=hf.1;omega
theorem NV {p n:Nat} (hp:aR p n) (hn:1≤n):(∀i,1≤i→2*i≤n→kj p (sqs 2 i^^^2))↔Irr p:=by
 constructor
 · intro h
   apply Classical.byContradiction
   intro hi
   obtain ⟨f,d,h1,h2,h3,h4,h5⟩:=AM hp hn hi
   exact Jc h1 (h d h4 h5 f h2 (Fu h1 h3))
 · intro h i h1 h2
   refine (Ad h).2 fun hd=>?_
   have:=yz h hp h1 hd
   omega
theorem xK {f d:Nat} (h:Dv f (sqs 2 d^^^2)) (r:Nat):∀k,Dv f (sqs 2 (d*k+r)^^^sqs 2 r)
 | 0=>by simp;exact Dv.zero f
 | k+1=>by
   have h1:=xK h r k
   have h2:=h.sqs (d*k+r)
   rw [Bu,Gl] at h2
   have h3:=h2.xor h1
   rw [Nat.xor_assoc,←Nat.xor_assoc (sqs 2 (d*k+r)),Nat.xor_self,Nat.zero_xor] at h3
   rwa [show d*(k+1)+r=d+(d*k+r) by rw [Nat.mul_succ];omega]
theorem NP {p n:Nat} (hp:aR p n) (hn:1≤n) (Q:List Nat) (hQ:∀q∈Q,1≤n / q∧n / q<n) (hC:∀d,1≤d→d<n→d ∣ n→∃q∈Q,d ∣ n / q):
   ((∀q∈Q,kj p (sqs 2 (n / q)^^^2))∧Dv p (sqs 2 n^^^2))↔Irr p:=by
 constructor
 · rintro ⟨h1,h2⟩
   apply Classical.byContradiction
   intro hi
   obtain ⟨f,d,f1,f2,f3,f4,f5⟩:=AM hp hn hi
   have hF:=Fu f1 f3
   have h3:Dv f (sqs 2 n^^^2):=f2.trans h2
   have hr:n%d=0:=by
     apply Classical.byContradiction
     intro h0
     have h4:=xK hF (n%d) (n / d)
     rw [Nat.div_add_mod] at h4
     have h5:=h4.xor h3
     rw [Nat.xor_comm (sqs 2 n) (sqs 2 (n%d)),Fi] at h5
     have:=yz f1 f3 (Nat.pos_of_ne_zero h0) h5
     have:=Nat.mod_lt n f4
     omega
   obtain ⟨q,hq,k,hk⟩:=hC d f4 (by omega) (Nat.dvd_of_mod_eq_zero hr)
   have h6:=xK hF 0 k
   rw [Nat.add_zero,←hk] at h6
   exact Jc f1 (h1 q hq f f2 h6)
 · intro h
   refine ⟨fun q hq=>(Ad h).2 fun hd=>?_,Fu h hp⟩
   have:=yz h hp (hQ q hq).1 hd
   have:=(hQ q hq).2
   omega

end Go.Proofs.YtpmhjnhgpplmnaaGreatDoor.Gf2
end

section
namespace Go.Proofs.YtpmhjnhgpplmnaaGreatDoor
open Go Go.Proofs.YtpmhjnhgpplmnaaGreatDoor.Sx
set_option maxRecDepth 100000
variable (w:World) (R:Ending→World→Prop)
theorem zo (a:Int) (h:∃b:Int→Int→World→Prop,Ifz (decide (a≥(4294967296:Int))) (b (bK .u64 a (32:Int)) 32 w) (b a 0 w)∧∀a c d,b a c d→∃b:Int→Int→World→Prop,Ifz (decide (a≥(65536:Int))) (b (bK .u64 a (16:Int)) (IntKind.wrap .i64 (c+(16:Int))) d) (b a c d)∧∀a c d,b a c d→∃b:Int→Int→World→Prop,Ifz (decide (a≥(256:Int))) (b (bK .u64 a (8:Int)) (IntKind.wrap .i64 (c+(8:Int))) d) (b a c d)∧∀a c d,b a c d→∃b,(Instr.index 9 (.string (ByteArray.mk #[0,1,2,2,3,3,3,3,4,4,4,4,4,4,4,4,5,5,5,5,5,5,5,5,5,5,5,5,5,5,5,5,6,6,6,6,6,6,6,6,6,6,6,6,6,6,6,6,6,6,6,6,6,6,6,6,6,6,6,6,6,6,6,6,7,7,7,7,7,7,7,7,7,7,7,7,7,7,7,7,7,7,7,7,7,7,7,7,7,7,7,7,7,7,7,7,7,7,7,7,7,7,7,7,7,7,7,7,7,7,7,7,7,7,7,7,7,7,7,7,7,7,7,7,7,7,7,7,8,8,8,8,8,8,8,8,8,8,8,8,8,8,8,8,8,8,8,8,8,8,8,8,8,8,8,8,8,8,8,8,8,8,8,8,8,8,8,8,8,8,8,8,8,8,8,8,8,8,8,8,8,8,8,8,8,8,8,8,8,8,8,8,8,8,8,8,8,8,8,8,8,8,8,8,8,8,8,8,8,8,8,8,8,8,8,8,8,8,8,8,8,8,8,8,8,8,8,8,8,8,8,8,8,8,8,8,8,8,8,8,8,8,8,8,8,8,8,8,8,8,8,8,8,8,8,8])) (.int .u8 (IntKind.wrap .u8 a))).run Tryz.prog d=.ok (.int .u8 b) d∧R (.returned (.int .i64 (IntKind.wrap .i64 (c+IntKind.wrap .i64 b)))) d):Calls Tryz.prog 274 #[.int .u64 a] w R:=aa 0xe13ec03b3d30321210241f12103a2d203b3d30321210241912103a2d201b3d3032121022512103a2d21d Tryz.func274 (by kernel_rfl) h
theorem CF (a:Int) (h:Ciz 274 #[.int .u64 a] w fun a b=>R (.returned (.int .i64 (IntKind.wrap .i64 (a- (1:Int))))) b):Calls Tryz.prog 205 #[.int .u64 a] w R:=aa 0xd0141c1d Tryz.func205 (by kernel_rfl) h
theorem Dj (a b c:Int) (h:Ciz 205 #[.int .u64 c] w fun d e=>∃(f:Int→Int→Int→World→Prop) (g:Int→Int→Int→World→Nat),f a b 63 e∧∀a b e h,f a b e h→Ifz (decide (e≥(0:Int))) (0≤e∧Ifz (eo .u64 (bK .u64 a e) (1:Int)==(0:Int)) (f a b (IntKind.wrap .i64 (e- (1:Int))) h∧g a b (IntKind.wrap .i64 (e- (1:Int))) h<g a b e h) (Ifz (decide (IntKind.wrap .i64 (IntKind.wrap .i64 ((64:Int)+e)-d)≥(64:Int))) (0≤IntKind.wrap .i64 (IntKind.wrap .i64 (IntKind.wrap .i64 ((64:Int)+e)-d)- (64:Int))∧f (aN .u64 a (cG .u64 c (IntKind.wrap .i64 (IntKind.wrap .i64 (IntKind.wrap .i64 ((64:Int)+e)-d)- (64:Int))))) b (IntKind.wrap .i64 (e- (1:Int))) h∧g (aN .u64 a (cG .u64 c (IntKind.wrap .i64 (IntKind.wrap .i64 (IntKind.wrap .i64 ((64:Int)+e)-d)- (64:Int))))) b (IntKind.wrap .i64 (e- (1:Int))) h<g a b e h) (0≤IntKind.wrap .i64 ((64:Int)-IntKind.wrap .i64 (IntKind.wrap .i64 ((64:Int)+e)-d))∧0≤IntKind.wrap .i64 (IntKind.wrap .i64 ((64:Int)+e)-d)∧f (aN .u64 a (bK .u64 c (IntKind.wrap .i64 ((64:Int)-IntKind.wrap .i64 (IntKind.wrap .i64 ((64:Int)+e)-d))))) (aN .u64 b (cG .u64 c (IntKind.wrap .i64 (IntKind.wrap .i64 ((64:Int)+e)-d)))) (IntKind.wrap .i64 (e- (1:Int))) h∧g (aN .u64 a (bK .u64 c (IntKind.wrap .i64 ((64:Int)-IntKind.wrap .i64 (IntKind.wrap .i64 ((64:Int)+e)-d))))) (aN .u64 b (cG .u64 c (IntKind.wrap .i64 (IntKind.wrap .i64 ((64:Int)+e)-d)))) (IntKind.wrap .i64 (e- (1:Int))) h<g a b e h))) (∃(a:Int→World→Prop) (e:Int→World→Nat),a b h∧∀b f,a b f→Ciz 205 #[.int .u64 b] f fun g h=>Ifz (decide (g≥d)) (Ciz 205 #[.int .u64 b] h (fun g h=>0≤IntKind.wrap .i64 (g-d)∧a (aN .u64 b (cG .u64 c (IntKind.wrap .i64 (g-d)))) h∧e (aN .u64 b (cG .u64 c (IntKind.wrap .i64 (g-d)))) h<e b f)) (R (.returned (.int .u64 b)) h))):Calls Tryz.prog 276 #[.int .u64 a,.int .u64 b,.int .u64 c] w R:=aa 0x2d0d7ad014e180030d0141c2311111c5c1129823b0d7ae10d7a42c000d7a42c32d25d0030d7adc2820032d20333118202481c218203981d2010141c1d Tryz.func276 (by kernel_rfl) h
theorem yX (a b c:Int) (h:Calls Tryz.prog 330 #[.int .u64 b,.int .u64 c] w fun b c=>∃d e,b=.returned (.tuple #[.int .u64 d,.int .u64 e])∧Calls Tryz.prog 276 #[.int .u64 d,.int .u64 e,.int .u64 a] c fun a b=>∃c,a=.returned (.int .u64 c)∧R (.returned (.int .u64 c)) b):Calls Tryz.prog 277 #[.int .u64 a,.int .u64 b,.int .u64 c] w R:=aa 0x1314ec0523324dc1d Tryz.func277 (by kernel_rfl) h
theorem DM (a b:Int) (h:∃(c:Int→Int→Int→World→Prop) (d:Int→Int→Int→World→Nat),c 0 0 0 w∧∀e f g h,c e f g h→Ifz (decide (g<(64:Int))) (0≤g∧∃i:Int→Int→World→Prop,Ifz (eo .u64 (bK .u64 b g) (1:Int)==(1:Int)) (0≤g∧0≤IntKind.wrap .i64 ((64:Int)-g)∧i (aN .u64 e (bK .u64 a (IntKind.wrap .i64 ((64:Int)-g)))) (aN .u64 f (cG .u64 a g)) h) (i e f h)∧∀a b j,i a b j→c a b (IntKind.wrap .i64 (g+1)) j∧d a b (IntKind.wrap .i64 (g+1)) j<d e f g h) (R (.returned (.tuple #[.int .u64 e,.int .u64 f])) h)):Calls Tryz.prog 330 #[.int .u64 a,.int .u64 b] w R:=aa 0x4d2b00d7a4210d7aec33322611b29262a0d7adc2d8200321d03331192622f61981d22d2d Tryz.func330 (by kernel_rfl) h
theorem C8 (a:Option Addr) (b c:Nat) (h:∃(c:Int→Int→World→Prop) (d:Int→Int→World→Nat),c 0 0 w∧∀e f g,c e f g→Ifz (decide (f<(b:Int))) (∃h i,a=some ⟨h,i,none⟩∧0≤f∧f<(b:Int)∧Lkz .u64 42 h (i+Int.toNat f*1) g fun a=>∃(b:Int→Int→World→Prop) (h:Int→Int→World→Nat),b e a g∧∀a i j,b a i j→Ifz (i != (0:Int)) (Calls Tryz.prog 276 #[.int .u64 0,.int .u64 a,.int .u64 i] j (fun c d=>∃e,c=.returned (.int .u64 e)∧b i e d∧h i e d<h a i j)) (c a (IntKind.wrap .i64 (f+1)) j∧d a (IntKind.wrap .i64 (f+1)) j<d e f g)) (R (.returned (.int .u64 e)) g)):Calls Tryz.prog 279 #[.slice a b c] w R:=aa 0x2d2b0d314e180032d23321513261c151339801338c8200321d0321181321b1815133983d21d1d Tryz.func279 (by kernel_rfl) h
theorem xW (a:Int) (h:∃(b:Int→Option Addr→Nat→Nat→Int→World→Prop) (c:Int→Option Addr→Nat→Nat→Int→World→Nat),b a none 0 0 2 w∧∀a d e f g h,b a d e f g h→Ifz (decide (a>(1:Int))) (g≠0∧Ifz (Int.tmod a g != (0:Int)) (b a d e f (IntKind.wrap .i64 (g+1)) h∧c a d e f (IntKind.wrap .i64 (g+1)) h<c a d e f g h) (Bsz 29 1 #[(0,.int .i64 g)] h (fun i j k l=>Apz 29 (.slice d e f) (.slice i j k) l fun i j k l=>∃(m:Int→World→Prop) (n:Int→World→Nat),m a l∧∀l o,m l o→g≠0∧Ifz (Int.tmod l g==(0:Int)) (g≠0∧m (IntKind.wrap .i64 (Int.tdiv l g)) o∧n (IntKind.wrap .i64 (Int.tdiv l g)) o<n l o) (b l i j k (IntKind.wrap .i64 (g+1)) o∧c l i j k (IntKind.wrap .i64 (g+1)) o<c a d e f g h)))) (R (.returned (.slice d e f)) h)):Calls Tryz.prog 278 #[.int .i64 a] w R:=aa 0x2d3b017ad18003017adc20110172910298017575dc003017adc2820032d20703231022d3102981d21d1d Tryz.func278 (by kernel_rfl) h
theorem p8 (a:Int) (h:Bxz 42 (.int .u64 a) w fun a b=>Lkz .u64 42 a 0 b fun c=>Ciz 205 #[.int .u64 c] b fun b c=>Ifz (decide (b<(1:Int))) (R (.returned (.bool false)) c) (∃d e,(Instr.makeFunc (.func 275) #[] #[.pointer (some ⟨a,0,none⟩)]).run Tryz.prog c=.ok d e∧Clz 278 #[.int .i64 b] e fun c e f g=>∃(f:Int→World→Prop) (h:Int→World→Nat),f 0 g∧∀g i,f g i→Ifz (decide (g<(e:Int))) (∃j k,c=some ⟨j,k,none⟩∧0≤g∧g<(e:Int)∧Liz 3 j (k+Int.toNat g*1) i fun c=>∃e:World→Prop,e i.drew∧c≠0∧∃j,(∀b,e b→LdQ 42 a 0 (.int .u64 j) b)∧∃k,(∀b,e b→LdQ 42 a 0 (.int .u64 k) b)∧∃(a:Nat) (l:List Value),d=.func (.func a) #[] ⟨l⟩∧gN Tryz.prog a=true∧Calls Tryz.prog a (([.int .i64 (IntKind.wrap .i64 (Int.tdiv b c))]:List Value)++l).toArray i.drew fun a b=>∃c,a=.returned (.int .u64 c)∧∃a:World→Prop,(∀b,a b→e b)∧a b∧Calls Tryz.prog 276 #[.int .u64 0,.int .u64 2,.int .u64 k] b fun b d=>∃e,b=.returned (.int .u64 e)∧∃b:World→Prop,(∀c,b c→a c)∧b d∧Bsz 433 2 #[(0,.int .u64 j),(1,.int .u64 (aN .u64 c e))] d fun a c d e=>∃j:World→Prop,(∀a,j a→b a)∧j e∧Calls Tryz.prog 279 #[.slice a c d] e fun a b=>∃c,a=.returned (.int .u64 c)∧∃a:World→Prop,(∀b,a b→j b)∧a b∧Ifz (c != (1:Int)) (R (.returned (.bool false)) b) (f (IntKind.wrap .i64 (g+1)) b∧h (IntKind.wrap .i64 (g+1)) b<h g i)) (∃c:World→Prop,c i.drew∧∃e,(∀b,c b→LdQ 42 a 0 (.int .u64 e) b)∧∃(a:Nat) (f:List Value),d=.func (.func a) #[] ⟨f⟩∧gN Tryz.prog a=true∧Calls Tryz.prog a (([.int .i64 b]:List Value)++f).toArray i.drew fun a b=>∃d,a=.returned (.int .u64 d)∧∃a:World→Prop,(∀b,a b→c b)∧a b∧Calls Tryz.prog 276 #[.int .u64 0,.int .u64 2,.int .u64 e] b fun b c=>∃e,b=.returned (.int .u64 e)∧∃b:World→Prop,(∀c,b c→a c)∧b c∧R (.returned (.bool (d==e))) c))):Calls Tryz.prog 206 #[.int .u64 a] w R:=aa 0x65223184431b243331022522b001d30001b13181a47219401813187431b54363303741321325201038c8200321d0111f1291f16123980d7141c20195c001d32d20101433c017c Tryz.func206 (by kernel_rfl) h
theorem nI (a:Int) (b c:Nat) (h:Lkz .u64 42 b c w fun d=>Calls Tryz.prog 276 #[.int .u64 0,.int .u64 2,.int .u64 d] w fun d e=>∃f,d=.returned (.int .u64 f)∧∃(d:Int→Int→World→Prop) (g:Int→Int→World→Nat),d f 0 e∧∀e f h,d e f h→Ifz (decide (f<a)) (Lkz .u64 42 b c h (fun a=>Calls Tryz.prog 277 #[.int .u64 a,.int .u64 e,.int .u64 e] h fun a b=>∃c,a=.returned (.int .u64 c)∧d c (IntKind.wrap .i64 (f+1)) b∧g c (IntKind.wrap .i64 (f+1)) b<g e f h)) (R (.returned (.int .u64 e)) h)):Calls Tryz.prog 275 #[.int .i64 a,.pointer (some ⟨b,c,none⟩)] w R:=aa 0x2d2b01314d3318200321d032118142718142982d20131433c1d Tryz.func275 (by kernel_rfl) h
theorem xB (a:Array Value) (h:Bxz 44 (.agg a) w fun a b=>Lkz .u64 42 a 0 b fun c=>Ciz 205 #[.int .u64 c] b fun b c=>∃d:Bool→World→Prop,Ifz (decide (b<(8:Int))||decide (b>(55:Int))) (d true c) (Lkz .u64 42 a 0 c (fun a=>Cbz 206 #[.int .u64 a] c fun a b=>d (!a) b))∧∀c e,d c e→∃d:World→Prop,Ifz c (d e) (∃c:Bool→World→Prop,Liz 3 a 1 e (fun b=>Ifz (decide (b<(1:Int))) (c true e) (Liz 3 a 1 e (fun a=>c (decide (a>(64:Int))) e)))∧∀e f,c e f→∃c:World→Prop,Ifz e (c f) (∃d:Bool→World→Prop,Liz 3 a 2 f (fun b=>Liz 3 a 1 f fun c=>Ifz (decide (b<c)) (d true f) (Liz 3 a 3 f (fun b=>Liz 3 a 2 f fun c=>Ifz (decide (b<c)) (d true f) (Liz 3 a 3 f (fun a=>d (decide (a>(65536:Int))) f)))))∧∀e f,d e f→∃d:World→Prop,Ifz e (d f) (∃c:Bool→World→Prop,Liz 3 a 4 f (fun d=>Ifz (decide (d<(0:Int))) (c true f) (Liz 3 a 4 f (fun d=>Ifz (decide (d>b)) (c true f) (Liz 3 a 4 f (fun a=>c (decide (a>(20:Int))) f)))))∧∀a b,c a b→Ifz a (d b) (R (.returned .nilIface) b))∧∀a,d a→c a)∧∀a,c a→d a)∧∀a,d a→R (.returned (.iface 65 (.int .i64 11))) a):Calls Tryz.prog 105 #[.agg a] w R:=aa 0x2d01d030e03105279c4203101b26bcd03114115f11f5f1a203001f5f122a0e0310525ace03103101c24bcd03103114113d12a3d1a20300493d122a0e03105238cd03114112c1192c1a203005a2c122a0e4143310621ec12be1411711d71a28201014331c017c Tryz.func105 (by kernel_rfl) h
theorem qc (a:Int) (h:∃(b:Int→Int→World→Prop) (c:Int→Int→World→Nat),b a (-1) w∧∀a d e,b a d e→Ifz (a != (0:Int)) (b (bK .u64 a (1:Int)) (IntKind.wrap .i64 (d+1)) e∧c (bK .u64 a (1:Int)) (IntKind.wrap .i64 (d+1)) e<c a d e) (R (.returned (.int .i64 d)) e)):Calls Tryz.prog 147 #[.int .u64 a] w R:=aa 0x2d3b3d80032d203213102731029821d1d Tryz.func147 (by kernel_rfl) h
theorem qz (a b:Int) (h:∃(c:Int→Int→Int→Int→World→Prop) (d:Int→Int→Int→Int→World→Nat),c b 0 0 0 w∧∀b e f g h,c b e f g h→Ifz (decide (g<(64:Int))) (∃i:Int→World→Prop,Ifz (bK .u64 b (63:Int)==(1:Int)) (i (aN .u64 (cG .u64 f (1:Int)) a) h) (i (cG .u64 f (1:Int)) h)∧∀a j,i a j→c (cG .u64 b (1:Int)) (bor .u64 (cG .u64 e (1:Int)) (bK .u64 f (63:Int))) a (IntKind.wrap .i64 (g+1)) j∧d (cG .u64 b (1:Int)) (bor .u64 (cG .u64 e (1:Int)) (bK .u64 f (63:Int))) a (IntKind.wrap .i64 (g+1)) j<d b e f g h) (R (.returned (.tuple #[.int .u64 e,.int .u64 f])) h)):Calls Tryz.prog 230 #[.int .u64 a,.int .u64 b] w R:=aa 0x4d3b3b04b33117132f172a3d23d6d820032d203334361122e6112981d21d1d2d Tryz.func230 (by kernel_rfl) h
theorem qi (a b c:Int) (h:Ciz 147 #[.int .u64 c] w fun d e=>∃(f:Int→Int→Int→Int→World→Prop) (g:Int→Int→Int→Int→World→Nat),f a b 0 0 e∧∀a b e h i,f a b e h i→Ifz (decide (h<(128:Int))) (Ifz (IntKind.wrap .u64 d==(0:Int)) (f (bor .u64 (cG .u64 a (1:Int)) (bK .u64 b (63:Int))) (cG .u64 b (1:Int)) e (IntKind.wrap .i64 (h+1)) i∧g (bor .u64 (cG .u64 a (1:Int)) (bK .u64 b (63:Int))) (cG .u64 b (1:Int)) e (IntKind.wrap .i64 (h+1)) i<g a b e h i) (0≤IntKind.wrap .u64 (IntKind.wrap .u64 d- (1:Int))∧∃j:Int→World→Prop,Ifz (eo .u64 (bK .u64 e (IntKind.wrap .u64 (IntKind.wrap .u64 d- (1:Int)))) (1:Int)==(1:Int)) (j (aN .u64 (bor .u64 (cG .u64 e (1:Int)) (bK .u64 a (63:Int))) c) i) (j (bor .u64 (cG .u64 e (1:Int)) (bK .u64 a (63:Int))) i)∧∀c d,j c d→f (bor .u64 (cG .u64 a (1:Int)) (bK .u64 b (63:Int))) (cG .u64 b (1:Int)) c (IntKind.wrap .i64 (h+1)) d∧g (bor .u64 (cG .u64 a (1:Int)) (bK .u64 b (63:Int))) (cG .u64 b (1:Int)) c (IntKind.wrap .i64 (h+1)) d<g a b e h i)) (R (.returned (.int .u64 e)) i)):Calls Tryz.prog 229 #[.int .u64 a,.int .u64 b,.int .u64 c] w R:=aa 0x2d3b04b33111813591182a2d5d0d7aec0032d23d6d3d820032d2033342182023d1f418203981d21d0d0141c1d Tryz.func229 (by kernel_rfl) h
theorem qj (a b:Int) (h:∃(c:Int→Int→World→Prop) (d:Int→Int→World→Nat),c a b w∧∀a b e,c a b e→Ifz (b != (0:Int)) (Calls Tryz.prog 229 #[.int .u64 0,.int .u64 a,.int .u64 b] e (fun f g=>∃h,f=.returned (.int .u64 h)∧c b h g∧d b h g<d a b e)) (R (.returned (.int .u64 a)) e)):Calls Tryz.prog 231 #[.int .u64 a,.int .u64 b] w R:=aa 0x2d2b2d01314dc80032d23322011852029821d Tryz.func231 (by kernel_rfl) h
theorem jS (a:Int) (h:Ciz 147 #[.int .u64 a] w fun b c=>Ifz (decide (b<(1:Int))) (R (.returned (.bool false)) c) (Calls Tryz.prog 229 #[.int .u64 0,.int .u64 2,.int .u64 a] c (fun c d=>∃e,c=.returned (.int .u64 e)∧∃(c:Int→Int→World→Prop) (f:Int→Int→World→Nat),c e 1 d∧∀d g h,c d g h→Ifz (decide (IntKind.wrap .i64 ((2:Int)*g)≤b)) (Calls Tryz.prog 230 #[.int .u64 d,.int .u64 d] h (fun b i=>∃j k,b=.returned (.tuple #[.int .u64 j,.int .u64 k])∧Calls Tryz.prog 229 #[.int .u64 j,.int .u64 k,.int .u64 a] i fun b i=>∃j,b=.returned (.int .u64 j)∧Calls Tryz.prog 231 #[.int .u64 a,.int .u64 (aN .u64 j e)] i fun a b=>∃e,a=.returned (.int .u64 e)∧Ifz (e != (1:Int)) (R (.returned (.bool false)) b) (c j (IntKind.wrap .i64 (g+1)) b∧f j (IntKind.wrap .i64 (g+1)) b<f d g h))) (R (.returned (.bool true)) h)))):Calls Tryz.prog 148 #[.int .u64 a] w R:=aa 0x1d3b001d30131442c01314ec0523324dc820034d20322512e2845123981d22d013141c001d32d2010141c1d Tryz.func148 (by kernel_rfl) h
theorem nO (a:Array Value) (h:Bxz 44 (.agg a) w fun a b=>Lkz .u64 42 a 0 b fun c=>Ciz 147 #[.int .u64 c] b fun b c=>∃d:Bool→World→Prop,Ifz (decide (b≥(8:Int))&&decide (b≤(55:Int))) (Liz 3 a 1 c (fun b=>Ifz (decide (b≥(1:Int))) (Liz 3 a 1 c (fun b=>Ifz (decide (b≤(64:Int))) (Liz 3 a 1 c (fun b=>Liz 3 a 2 c fun e=>Ifz (decide (b≤e)) (Liz 3 a 2 c (fun b=>Liz 3 a 3 c fun e=>Ifz (decide (b≤e)) (Liz 3 a 3 c (fun a=>d (decide (a≤(65536:Int))) c)) (d false c))) (d false c))) (d false c))) (d false c))) (d false c)∧∀c e,d c e→∃d:Bool→World→Prop,Ifz c (Liz 3 a 4 e (fun c=>Ifz (decide (c≥(0:Int))) (Liz 3 a 4 e (fun c=>Ifz (decide (c≤b)) (Liz 3 a 4 e (fun a=>d (decide (a≤(20:Int))) e)) (d false e))) (d false e))) (d false e)∧∀b c,d b c→∃d:Bool→World→Prop,Ifz (!b) (d true c) (Lkz .u64 42 a 0 c (fun a=>Cbz 148 #[.int .u64 a] c fun a b=>d (!a) b))∧∀a b,d a b→Ifz a (R (.returned (.int .i64 11)) b) (R (.returned (.int .i64 0)) b)):Calls Tryz.prog 56 #[.agg a] w R:=aa 0x1d001d30d4143310527ece141118b1187c1a22028201b20520e0316fc4203169ce0315ccd141141295b142a203d2038202b201c20520e0314ece0310313fce03103138ce0312bce0311ec12be1411414b18142a201014331c017c Tryz.func56 (by kernel_rfl) h
end Go.Proofs.YtpmhjnhgpplmnaaGreatDoor
end

section
namespace Go.Proofs.YtpmhjnhgpplmnaaGreatDoor
open Go Sx Gf2
set_option maxRecDepth 8000

abbrev W64:Nat:=18446744073709551616
theorem w64:W64=2^64:=by decide
theorem kR {a b:Nat} (ha:a<W64) (hb:b<W64):a^^^b<W64:=by rw [w64] at*;exact Nat.xor_lt_two_pow ha hb
theorem x64 {a b:Nat} (ha:a<W64) (hb:b<W64):aN .u64 (a:Int) (b:Int)=((a^^^b:Nat):Int):=oU rfl (by simpa [eA,IntKind.bits] using ha) (by simpa [eA,IntKind.bits] using hb)
theorem N8 {a b:Nat} (ha:a<W64) (hb:b<W64):bor .u64 (a:Int) (b:Int)=((a||| b:Nat):Int):=ud rfl (by simpa [eA,IntKind.bits] using ha) (by simpa [eA,IntKind.bits] using hb)
theorem N4 {a b:Nat} (ha:a<W64) (hb:b<W64):eo .u64 (a:Int) (b:Int)=((a&&& b:Nat):Int):=tJ rfl (by simpa [eA,IntKind.bits] using ha) (by simpa [eA,IntKind.bits] using hb)
theorem vW {x n:Nat} (hn:n≤64):cG .u64 (x:Int) ((n:Nat):Int)=((x*2^n%W64:Nat):Int):=BM rfl _ _ hn
theorem qK {x n:Nat} (hn:n≤64):bK .u64 (x:Int) ((n:Nat):Int)=((x / 2^n:Nat):Int):=kZ _ _ _ hn
theorem CA {x n:Nat} (hx:x<W64) (hn:n≤64):eo .u64 (bK .u64 (x:Int) (n:Int)) 1=((x / 2^n%2:Nat):Int):=by
 rw [qK hn]
 have:=N4 (a:=x / 2^n) (b:=1) (Nat.lt_of_le_of_lt (Nat.div_le_self _ _) hx) (by decide)
 rw [Nat.and_one_is_mod] at this
 exact this

def gX (x:Nat):Nat:=if x=0 then 0 else x.log2+1
theorem xN {x d:Nat} (h:aR x d):gX x=d+1:=by
 rw [gX,if_neg h.ne,(aF h.ne).uniq h]
theorem Gf2.aR.shr {x d k:Nat} (h:aR x d) (hk:k≤d):aR (x / 2^k) (d-k):=by
 have hp:=Nat.two_pow_pos k
 refine ⟨(Nat.le_div_iff_mul_le hp).2 ?_,(Nat.div_lt_iff_lt_mul hp).2 ?_⟩
 · rw [←Nat.pow_add,show d-k+k=d by omega];exact h.1
 · rw [←Nat.pow_add,show d-k+1+k=d+1 by omega];exact h.2
theorem mL {x k:Nat} (h:2^k≤x):gX x=k+gX (x / 2^k):=by
 have h0:x≠0:=by have:=Nat.two_pow_pos k;omega
 have hd:=aF h0
 have hk:k≤x.log2:=Nat.le_of_not_lt fun hl=>by
   have:=Nat.pow_le_pow_right (show 0<2 by decide) (show x.log2+1≤k from hl)
   have:=hd.2
   omega
 rw [xN hd,xN (hd.shr hk)]
 omega
def u5:List UInt8:=(List.range 256).map fun x=>UInt8.ofNat (gX x)
theorem Fo:u5=[0,1,2,2,3,3,3,3,4,4,4,4,4,4,4,4,5,5,5,5,5,5,5,5,5,5,5,5,5,5,5,5,6,6,6,6,6,6,6,6,6,6,6,6,6,6,6,6,6,6,6,6,6,6,6,6,6,6,6,6,6,6,6,6,7,7,7,7,7,7,7,7,7,7,7,7,7,7,7,7,7,7,7,7,7,7,7,7,7,7,7,7,7,7,7,7,7,7,7,7,7,7,7,7,7,7,7,7,7,7,7,7,7,7,7,7,7,7,7,7,7,7,7,7,7,7,7,7,8,8,8,8,8,8,8,8,8,8,8,8,8,8,8,8,8,8,8,8,8,8,8,8,8,8,8,8,8,8,8,8,8,8,8,8,8,8,8,8,8,8,8,8,8,8,8,8,8,8,8,8,8,8,8,8,8,8,8,8,8,8,8,8,8,8,8,8,8,8,8,8,8,8,8,8,8,8,8,8,8,8,8,8,8,8,8,8,8,8,8,8,8,8,8,8,8,8,8,8,8,8,8,8,8,8,8,8,8,8,8,8,8,8,8,8,8,8,8,8,8,8,8,8,8,8,8,8]:=by kernel_rfl
theorem Pn {l:List UInt8} {i:Nat} (hi:i<l.length) (w:World):(Instr.index 9 (.string ⟨l.toArray⟩) (.int .u8 (i:Int))).run Tryz.prog w=.ok (.int .u8 ((l.getD i 0).toNat:Int)) w:=by
 have h1:(⟨l.toArray⟩:ByteArray)[i]?=some (l.getD i 0):=by
   have h2:i<(⟨l.toArray⟩:ByteArray).size:=by show i<l.toArray.size;simpa using hi
   rw [getElem?_pos _ i h2]
   show some (l.toArray[i]'(by simpa using hi))=_
   simp [List.getD,hi]
 have h0:(0:Int)≤(i:Int):=by omega
 simp only [Instr.index,Sem.run_bind,asIntOf,Sem.run_pure,run_underlying Tryz.underlying9,Result.andThen_ok,h0,if_true,Int.toNat_natCast,h1]
theorem FO (x:Nat) (hx:x<W64) (w:World):Calls Tryz.prog 274 #[.int .u64 (x:Int)] w fun e w'=>e=.returned (.int .i64 ((gX x:Nat):Int))∧w'=w:=by
 apply zo
 refine ⟨fun y n w'=>∃y' n':Nat,y=y'∧n=n'∧y'<4294967296∧n'≤32∧n'+gX y'=gX x∧w'=w,⟨fun h=>?_,fun h=>?_⟩,?_⟩
 · simp only [decide_eq_true_eq,ge_iff_le] at h
   have h32:2^32≤x:=by omega
   have hx':x<18446744073709551616:=hx
   refine ⟨x / 2^32,32,qK (by decide),rfl,by omega,by omega,(mL h32).symm,rfl⟩
 · simp only [decide_eq_false_iff_not,ge_iff_le] at h
   exact ⟨x,0,rfl,rfl,by omega,by omega,by omega,rfl⟩
 rintro y n w1 ⟨y,n,rfl,rfl,hy,hn,hl,rfl⟩
 refine ⟨fun y n w'=>∃y' n':Nat,y=y'∧n=n'∧y'<65536∧n'≤48∧n'+gX y'=gX x∧w'=w1,⟨fun h=>?_,fun h=>?_⟩,?_⟩
 · simp only [decide_eq_true_eq,ge_iff_le] at h
   have h16:2^16≤y:=by omega
   have:=mL h16
   exact ⟨y / 2^16,n+16,qK (by decide),by rw [wrap_i64 (by omega) (by omega)];omega,by omega,by omega,by omega,rfl⟩
 · simp only [decide_eq_false_iff_not,ge_iff_le] at h
   exact ⟨y,n,rfl,rfl,by omega,by omega,hl,rfl⟩
 rintro y n w2 ⟨y,n,rfl,rfl,hy,hn,hl,rfl⟩
 refine ⟨fun y n w'=>∃y' n':Nat,y=y'∧n=n'∧y'<256∧n'≤56∧n'+gX y'=gX x∧w'=w2,⟨fun h=>?_,fun h=>?_⟩,?_⟩
 · simp only [decide_eq_true_eq,ge_iff_le] at h
   have h8:2^8≤y:=by omega
   have:=mL h8
   exact ⟨y / 2^8,n+8,qK (by decide),by rw [wrap_i64 (by omega) (by omega)];omega,by omega,by omega,by omega,rfl⟩
 · simp only [decide_eq_false_iff_not,ge_iff_le] at h
   exact ⟨y,n,rfl,rfl,by omega,by omega,hl,rfl⟩
 rintro y n w3 ⟨y,n,rfl,rfl,hy,hn,hl,rfl⟩
 have hle:gX y≤8:=by
   unfold gX
   split
   · omega
   · rename_i h0
     have h1:=(aF h0).1
     have:y.log2<8:=Nat.lt_of_not_le fun h8=>by
       have:=Nat.pow_le_pow_right (show 0<2 by decide) h8
       omega
     omega
 have hg:((u5.getD y 0).toNat:Int)=((gX y:Nat):Int):=by
   rw [u5,List.getD_eq_getElem?_getD,List.getElem?_map,List.getElem?_range hy]
   simp only [Option.map_some,Option.getD_some]
   rw [UInt8.toNat_ofNat',Nat.mod_eq_of_lt (by omega)]
 have ht:u5.length=256:=by simp [u5]
 have hix:=Pn (l:=u5) (i:=y) (by omega) w3
 rw [hg,Fo] at hix
 refine ⟨_,by rw [wrap_u8,Int.emod_eq_of_lt (by omega) (by omega)];exact hix,?_,rfl⟩
 rw [wrap_i64 (n:=((gX y:Nat):Int)) (by omega) (by omega),wrap_i64 (by omega) (by omega)]
 congr 2
 omega

def jJ (p:Nat):Int:=(gX p:Int)-1
theorem iJ {p d:Nat} (h:aR p d):jJ p=d:=by rw [jJ,xN h];omega
theorem nS (p:Nat) (hp:p<W64) (w:World):Calls Tryz.prog 205 #[.int .u64 (p:Int)] w fun e w'=>e=.returned (.int .i64 (jJ p))∧w'=w:=by
 have hl:gX p≤64:=by
   unfold gX
   split
   · omega
   · rename_i h0
     have h1:=(aF h0).1
     have:p.log2<64:=Nat.lt_of_not_le fun h8=>by
       have:=Nat.pow_le_pow_right (show 0<2 by decide) h8
       have:=w64
       omega
     omega
 apply CF
 refine (FO p hp w).mono ?_
 rintro e w1 ⟨rfl,rfl⟩
 refine ⟨_,rfl,?_,rfl⟩
 rw [wrap_i64 (by omega) (by omega)]
 rfl

end Go.Proofs.YtpmhjnhgpplmnaaGreatDoor
end

section
namespace Go.Proofs.YtpmhjnhgpplmnaaGreatDoor
open Go Sx Gf2
set_option maxRecDepth 8000

theorem LI (n:Nat):(((n:Nat):Int)==0)=decide (n=0):=by
 rw [Bool.eq_iff_iff];simp
theorem L9 (n:Nat):(((n:Nat):Int)==1)=decide (n=1):=by
 rw [Bool.eq_iff_iff];simp;omega

theorem pN {a b c e:Nat} (hb:b<W64) (he:e<W64):(a^^^c)*W64+(b^^^e)=(a*W64+b)^^^(c*W64+e):=by
 rw [w64] at*
 refine Nat.eq_of_testBit_eq fun j=>?_
 rw [Nat.testBit_xor,Nat.mul_comm,Nat.mul_comm a,Nat.mul_comm c,Nat.testBit_two_pow_mul_add _ (Nat.xor_lt_two_pow hb he),Nat.testBit_two_pow_mul_add _ hb,Nat.testBit_two_pow_mul_add _ he]
 split<;>rw [Nat.testBit_xor]
theorem GX (x:Nat) {s:Nat} (hs:s≤64):x / 2^(64-s)*W64+x*2^s%W64=x*2^s:=by
 have h1:x*2^s / W64=x / 2^(64-s):=by
   rw [w64,show (64:Nat)=(64-s)+s by omega,Nat.pow_add,show (64-s+s)-s=64-s by omega]
   exact Nat.mul_div_mul_right _ _ (Nat.two_pow_pos s)
 have:=Nat.div_add_mod (x*2^s) W64
 rw [h1,Nat.mul_comm W64] at this
 exact this

theorem Gz {x i:Nat} (hx:x<2^(i+1)):(x / 2^i%2=0→x<2^i)∧(x / 2^i%2≠0→aR x i):=by
 have hp:=Nat.two_pow_pos i
 have h2:x / 2^i<2:=(Nat.div_lt_iff_lt_mul hp).2 (by rw [Nat.pow_succ] at hx;omega)
 constructor
 · intro h
   refine Nat.lt_of_not_le fun hl=>?_
   have:=(Nat.le_div_iff_mul_le hp).2 (show 1*2^i≤x by omega)
   omega
 · intro h
   refine ⟨Nat.le_of_not_lt fun hl=>h ?_,hx⟩
   rw [Nat.div_eq_of_lt hl]

theorem lQ {m d:Nat} (h:aR m d) (hm:m<W64):d<64:=Nat.lt_of_not_le fun h8=>by
 have:=Nat.pow_le_pow_right (show 0<2 by decide) h8
 have:=h.1
 have:=w64
 omega
theorem An {x d:Nat} (h:aR x d) (hd:d<64):x<W64:=by
 have:=Nat.pow_le_pow_right (show 0<2 by decide) (show d+1≤64 from hd)
 have:=h.2
 have:=w64
 omega

set_option maxHeartbeats 1000000 in
theorem nU {m d:Nat} (hm:aR m d) (hm64:m<W64) (hi lo:Nat) (hhi:hi<W64) (hlo:lo<W64) (w:World):
   Calls Tryz.prog 276 #[.int .u64 (hi:Int),.int .u64 (lo:Int),.int .u64 (m:Int)] w fun e w'=>∃r:Nat,e=.returned (.int .u64 (r:Int))∧fF m d (hi*W64+lo) r∧r<W64∧w'=w:=by
 have hd:=lQ hm hm64
 apply Dj
 refine (nS m hm64 w).mono ?_
 rintro e w1 ⟨rfl,rfl⟩
 rw [iJ hm]
 refine ⟨_,rfl,fun x y z w'=>∃(a b k:Nat),x=(a:Int)∧y=(b:Int)∧z=(k:Int)-1∧k≤64∧a<2^k∧b<W64∧Dv m ((a*W64+b)^^^(hi*W64+lo))∧w'=w1,fun _ _ z _=>(z+1).toNat,⟨hi,lo,64,rfl,rfl,rfl,by omega,by rw [←w64];exact hhi,hlo,by rw [Nat.xor_self];exact Dv.zero m,rfl⟩,?_⟩
 rintro x y z w2 ⟨a,b,k,rfl,rfl,rfl,hk,ha,hb,hdv,rfl⟩
 refine ⟨fun h=>?_,fun h=>?_⟩
 · simp only [ge_iff_le,decide_eq_true_eq] at h
   obtain ⟨i,rfl⟩:∃i,k=i+1:=⟨k-1,by omega⟩
   have ez:(((i+1:Nat):Int)-1)=(i:Int):=by omega
   have hW:IntKind.wrap .i64 ((i:Int)-1)=(i:Int)-1:=wrap_i64 (by omega) (by omega)
   have ha64:a<W64:=by
     have:=Nat.pow_le_pow_right (show 0<2 by decide) hk
     have:=w64
     omega
   have hs0:IntKind.wrap .i64 (IntKind.wrap .i64 ((64:Int)+(i:Int))- (d:Int))=((64+i-d:Nat):Int):=by
     rw [wrap_i64 (n:=(64:Int)+i) (by omega) (by omega),wrap_i64 (by omega) (by omega)];omega
   rw [ez,hW,hs0]
   obtain ⟨g0,g1⟩:=Gz ha
   have hmu:((i:Int)-1+1).toNat<((i:Int)+1).toNat:=by omega
   refine ⟨by omega,fun hbit=>⟨⟨a,b,i,rfl,rfl,rfl,by omega,?_,hb,hdv,rfl⟩,hmu⟩,fun hbit=>?_⟩
   · rw [CA ha64 (by omega),LI] at hbit
     exact g0 (of_decide_eq_true hbit)
   · rw [CA ha64 (by omega),LI] at hbit
     have hdeg:=g1 (of_decide_eq_false hbit)
     refine ⟨fun hs=>?_,fun hs=>?_⟩
     · simp only [ge_iff_le,decide_eq_true_eq] at hs
       have hsd:d≤i:=by omega
       have e1:IntKind.wrap .i64 (((64+i-d:Nat):Int)-64)=((i-d:Nat):Int):=by rw [wrap_i64 (by omega) (by omega)];omega
       have hS:=hm.shift (i-d)
       rw [show d+(i-d)=i by omega] at hS
       have hS64:=An hS (by omega)
       rw [e1,vW (by omega),Nat.mod_eq_of_lt hS64,x64 ha64 hS64]
       refine ⟨by omega,⟨_,b,i,rfl,rfl,rfl,by omega,hdeg.nV hS,hb,?_,rfl⟩,hmu⟩
       have e2:=pN (a:=a) (c:=m*2^(i-d)) hb (show 0<W64 by decide)
       rw [Nat.xor_zero,Nat.add_zero] at e2
       rw [e2]
       have e3:m*2^(i-d)*W64=m*2^(64+i-d):=by rw [w64,Nat.mul_assoc,←Nat.pow_add];congr 2;omega
       rw [e3,Nat.xor_assoc,Nat.xor_comm (m*2^(64+i-d)),←Nat.xor_assoc]
       exact hdv.xor (mV m _)
     · simp only [ge_iff_le,decide_eq_false_iff_not] at hs
       obtain ⟨s,hse⟩:∃s,64+i-d=s:=⟨_,rfl⟩
       rw [hse] at hs ⊢
       have hs64:s≤64:=by omega
       have e1:IntKind.wrap .i64 ((64:Int)- (s:Int))=((64-s:Nat):Int):=by rw [wrap_i64 (by omega) (by omega)];omega
       have hsh:aR (m / 2^(64-s)) i:=by
         have:=hm.shr (k:=64-s) (by omega)
         rwa [show d- (64-s)=i by omega] at this
       have hq64:m / 2^(64-s)<W64:=Nat.lt_of_le_of_lt (Nat.div_le_self _ _) hm64
       have hr64:m*2^s%W64<W64:=Nat.mod_lt _ (by decide)
       rw [e1,qK (by omega),vW hs64,x64 ha64 hq64,x64 hb hr64]
       refine ⟨by omega,by omega,⟨_,_,i,rfl,rfl,rfl,by omega,hdeg.nV hsh,kR hb hr64,?_,rfl⟩,hmu⟩
       rw [pN hb hr64,GX m hs64,Nat.xor_assoc,Nat.xor_comm (m*2^s),←Nat.xor_assoc]
       exact hdv.xor (mV m _)
 · simp only [ge_iff_le,decide_eq_false_iff_not] at h
   have hk0:k=0:=by omega
   subst hk0
   have ha0:a=0:=by simpa using ha
   subst ha0
   rw [Nat.zero_mul,Nat.zero_add] at hdv
   refine ⟨fun y w'=>∃c:Nat,y=(c:Int)∧c<W64∧Dv m (c^^^(hi*W64+lo))∧w'=w2,fun y _=>y.toNat,⟨b,rfl,hb,hdv,rfl⟩,?_⟩
   rintro y w3 ⟨c,rfl,hc,hcd,rfl⟩
   refine (nS c hc w3).mono ?_
   rintro e w4 ⟨rfl,rfl⟩
   refine ⟨_,rfl,fun hge=>?_,fun hlt=>?_⟩
   · simp only [ge_iff_le,decide_eq_true_eq] at hge
     have hc0:c≠0:=by rintro rfl;simp [jJ,gX] at hge;omega
     have hcl:=aF hc0
     rw [iJ hcl] at hge
     have hl64:=lQ hcl hc
     refine (nS c hc w4).mono ?_
     rintro e w5 ⟨rfl,rfl⟩
     rw [iJ hcl]
     have e1:IntKind.wrap .i64 ((c.log2:Int)- (d:Int))=((c.log2-d:Nat):Int):=by rw [wrap_i64 (by omega) (by omega)];omega
     have hS:=hm.shift (c.log2-d)
     rw [show d+(c.log2-d)=c.log2 by omega] at hS
     have hS64:=An hS hl64
     refine ⟨_,rfl,?_⟩
     try dsimp only
     rw [e1,vW (by omega),Nat.mod_eq_of_lt hS64,x64 hc hS64]
     have hlt:=Nat.lt_of_lt_of_le (hcl.nV hS) hcl.1
     refine ⟨by omega,⟨_,rfl,kR hc hS64,?_,rfl⟩,by simp only [Int.toNat_natCast];exact hlt⟩
     rw [Nat.xor_assoc,Nat.xor_comm (m*2^_),←Nat.xor_assoc]
     exact hcd.xor (mV m _)
   · simp only [ge_iff_le,decide_eq_false_iff_not] at hlt
     refine ⟨c,rfl,⟨?_,by rw [Nat.xor_comm];exact hcd⟩,hc,rfl⟩
     by_cases hc0:c=0
     · subst hc0;exact Nat.two_pow_pos d
     · have hcl:=aF hc0
       rw [iJ hcl] at hlt
       exact Nat.lt_of_lt_of_le hcl.2 (Nat.pow_le_pow_right (by decide) (by omega))

theorem HW (a b:Nat) (i:Nat):aD a (b%2^(i+1))=aD a (b%2^i)^^^(if b / 2^i%2=1 then a*2^i else 0):=by
 have e:b%2^(i+1)=(b%2^i)^^^(if b / 2^i%2=1 then 2^i else 0):=by
   refine Nat.eq_of_testBit_eq fun j=>?_
   rw [Nat.testBit_xor,Nat.testBit_mod_two_pow,Nat.testBit_mod_two_pow]
   have hi:b.testBit i=decide (b / 2^i%2=1):=Nat.testBit_eq_decide_div_mod_eq
   by_cases hj:j=i
   · subst hj
     split<;>simp [hi,Nat.testBit_two_pow_self, *]
   · have:(if b / 2^i%2=1 then 2^i else 0).testBit j=false:=by
       split
       · exact Nat.testBit_two_pow_of_ne (fun h=>hj h.symm)
       · simp
     rw [this,Bool.xor_false]
     by_cases hl:j<i
     · simp [hl,Nat.lt_succ_of_lt hl]
     · have:¬j<i+1:=by omega
       simp [hl,this]
 rw [e,gB]
 congr 1
 split
 · rw [El]
 · simp

theorem Kp (a b:Nat) (ha:a<W64) (hb:b<W64) (w:World):
   Calls Tryz.prog 330 #[.int .u64 (a:Int),.int .u64 (b:Int)] w fun e w'=>∃hi lo:Nat,e=.returned (.tuple #[.int .u64 (hi:Int),.int .u64 (lo:Int)])∧hi<W64∧lo<W64∧hi*W64+lo=aD a b∧w'=w:=by
 apply DM
 refine ⟨fun x y z w'=>∃(hi lo i:Nat),x=(hi:Int)∧y=(lo:Int)∧z=(i:Int)∧i≤64∧hi<W64∧lo<W64∧hi*W64+lo=aD a (b%2^i)∧w'=w,fun _ _ z _=>64-z.toNat,⟨0,0,0,rfl,rfl,rfl,by omega,by decide,by decide,by simp [Nat.mod_one],rfl⟩,?_⟩
 rintro x y z w1 ⟨hi,lo,i,rfl,rfl,rfl,hi64,hh,hl,he,rfl⟩
 refine ⟨fun h=>?_,fun h=>?_⟩
 · have hi':i<64:=by simp at h;omega
   have e1:IntKind.wrap .i64 ((64:Int)- (i:Int))=((64-i:Nat):Int):=by rw [wrap_i64 (by omega) (by omega)];omega
   have hq:a / 2^(64-i)<W64:=Nat.lt_of_le_of_lt (Nat.div_le_self _ _) ha
   have hr:a*2^i%W64<W64:=Nat.mod_lt _ (by decide)
   have hb':=HW a b i
   refine ⟨by omega,fun x y w'=>∃(hi lo:Nat),x=(hi:Int)∧y=(lo:Int)∧hi<W64∧lo<W64∧hi*W64+lo=aD a (b%2^(i+1))∧w'=w1,⟨fun hbit=>?_,fun hbit=>?_⟩,?_⟩
   · rw [CA hb (by omega),L9] at hbit
     have hbit':b / 2^i%2=1:=of_decide_eq_true hbit
     rw [e1,qK (by omega),vW (by omega),x64 hh hq,x64 hl hr]
     refine ⟨by omega,by omega,_,_,rfl,rfl,kR hh hq,kR hl hr,?_,rfl⟩
     rw [pN hl hr,GX a (by omega),he,hb',if_pos hbit']
   · rw [CA hb (by omega),L9] at hbit
     have hbit':¬b / 2^i%2=1:=of_decide_eq_false hbit
     refine ⟨hi,lo,rfl,rfl,hh,hl,?_,rfl⟩
     rw [hb',if_neg hbit',Nat.xor_zero,he]
   · rintro x y w2 ⟨hi2,lo2,rfl,rfl,h1,h2,h3,rfl⟩
     exact ⟨⟨hi2,lo2,i+1,rfl,rfl,aq hi' (by omega),by omega,h1,h2,h3,rfl⟩,aB hi' (by omega)⟩
 · have hi':i=64:=by simp at h;omega
   subst hi'
   rw [←w64,Nat.mod_eq_of_lt hb] at he
   exact ⟨hi,lo,rfl,hh,hl,he,rfl⟩

theorem CX {m d:Nat} (hm:aR m d) (hm64:m<W64) (a b:Nat) (ha:a<W64) (hb:b<W64) (w:World):
   Calls Tryz.prog 277 #[.int .u64 (m:Int),.int .u64 (a:Int),.int .u64 (b:Int)] w fun e w'=>∃r:Nat,e=.returned (.int .u64 (r:Int))∧fF m d (aD a b) r∧r<W64∧w'=w:=by
 apply yX
 refine (Kp a b ha hb w).mono ?_
 rintro e w1 ⟨hi,lo,rfl,h1,h2,h3,rfl⟩
 refine ⟨_,_,rfl,(nU hm hm64 hi lo h1 h2 w1).mono ?_⟩
 rintro e w2 ⟨r,rfl,hr,hr64,rfl⟩
 rw [h3] at hr
 exact ⟨_,rfl,r,rfl,hr,hr64,rfl⟩

def GV (a b g:Nat):Prop:=∀h,Dv h g↔(Dv h a∧Dv h b)
theorem GV.alone {a b g:Nat} (h:GV a b g):g=1↔kj a b:=by
 constructor
 · rintro rfl x h1 h2
   exact Jn ((h x).2 ⟨h1,h2⟩)
 · intro ha
   have:=(h g).1 (Dv.self g)
   exact ha g this.1 this.2
theorem xD {a b r d:Nat} (hr:fF b d a r):∀h,(Dv h b∧Dv h r)↔(Dv h a∧Dv h b):=fun h=>by
 constructor
 · rintro ⟨h1,h2⟩
   exact ⟨(h1.trans hr.dv).Bx h2,h1⟩
 · rintro ⟨h1,h2⟩
   refine ⟨h2,?_⟩
   have:=h2.trans hr.dv
   rw [Nat.xor_comm] at this
   exact this.Bx h1

end Go.Proofs.YtpmhjnhgpplmnaaGreatDoor
end

section
namespace Go.Proofs.YtpmhjnhgpplmnaaGreatDoor
open Go Sx Gf2
set_option maxRecDepth 8000

theorem LG (w:World):(isAgg 42).run Tryz.prog w=.ok false w:=Tryz.isAgg42 w
theorem CI (w:World):(isAgg 3).run Tryz.prog w=.ok false w:=Tryz.isAgg3 w

theorem Kl (p y : Nat) (hp : p < W64) (hy : y < W64) (a : Option Addr) (c : Nat) (w : World) (hr : Rd w a 2 c 1 [.int .u64 (p : Int), .int .u64 (y : Int)]) :
   Calls Tryz.prog 279 #[.slice a 2 c] w fun e w'=>∃g:Nat,e=.returned (.int .u64 (g:Int))∧GV p y g∧g<W64∧w'=w:=by
 apply C8
 refine ⟨fun x z w'=>∃(A j:Nat),x=(A:Int)∧z=(j:Int)∧j≤2∧A<W64∧(∀h,Dv h A↔∀v∈ [p,y].take j,Dv h v)∧w'=w,fun _ z _=>2-z.toNat,⟨0,0,rfl,rfl,by omega,by decide,fun h=>by simp [Dv.zero],rfl⟩,?_⟩
 rintro x z w1 ⟨A,j,rfl,rfl,hj,hA,hG,rfl⟩
 refine ⟨fun h=>?_,fun h=>?_⟩
 · have hj' : j < 2 := by simp at h; omega
   obtain ⟨v,hv,hv64⟩:∃v:Nat,[p,y][j]?=some v∧v<W64:=by
     match j,hj' with
     | 0,_=>exact ⟨p,rfl,hp⟩
     | 1,_=>exact ⟨y,rfl,hy⟩
   have hcell:([.int .u64 (p:Int),.int .u64 (y:Int)]:List Value)[j]?=some (.int .u64 (v:Int)):=by
     have: [Value.int .u64 (p:Int),.int .u64 (y:Int)]=[p,y].map fun (n:Nat)=>Value.int .u64 (n:Int):=rfl
     rw [this,List.getElem?_map,hv];rfl
   obtain ⟨b,o,ha,hc⟩:=hr.cells.at_ hcell
   refine ⟨b,o,ha,by omega,by omega,_,by rw [Int.toNat_natCast,Nat.mul_one];exact ld1 (LG _) hc,fun x z w'=>∃(s t:Nat),x=(s:Int)∧z=(t:Int)∧s<W64∧t<W64∧(∀h,(Dv h s∧Dv h t)↔(Dv h A∧Dv h v))∧w'=w1,fun _ z _=>z.toNat,⟨A,v,rfl,rfl,hA,hv64,fun _=>Iff.rfl,rfl⟩,?_⟩
   rintro x z w2 ⟨s,t,rfl,rfl,hs,ht,hst,rfl⟩
   refine ⟨fun hne=>?_,fun heq=>?_⟩
   · have ht0:t≠0:=by rintro rfl;simp at hne
     refine (nU (aF ht0) ht 0 s (by decide) hs w2).mono ?_
     rintro e w3 ⟨r,rfl,hm,hr64,rfl⟩
     rw [Nat.zero_mul,Nat.zero_add] at hm
     refine ⟨_,rfl,⟨t,r,rfl,rfl,ht,hr64,fun h=>(xD hm h).trans (hst h),rfl⟩,?_⟩
     have:=Nat.lt_of_lt_of_le hm.lt (aF ht0).1
     simp only [Int.toNat_natCast];exact this
   · have ht0 : t = 0 := by have : ((t : Nat) : Int) = 0 := by simpa using heq
                            omega
     subst ht0
     refine ⟨⟨s,j+1,rfl,aq hj' (by omega),by omega,hs,fun h=>?_,rfl⟩,aB hj' (by omega)⟩
     have h1:=hst h
     have h2:=hG h
     rw [List.take_add_one,hv]
     simp only [Option.toList_some,List.mem_append,List.mem_singleton,or_imp,forall_and,forall_eq]
     rw [←h2,←h1]
     exact ⟨fun k=>⟨k,Dv.zero h⟩,fun k=>k.1⟩
 · have hj':j=2:=by simp at h;omega
   subst hj'
   refine ⟨A,rfl,fun h=>?_,hA,rfl⟩
   rw [hG h]
   simp

theorem Gf2.fF.sq {p n a s r:Nat} (h1:fF p n a s) (h2:fF p n (aD s s) r):fF p n (aD a a) r:=⟨h2.lt,by
 have h3:Dv p (aD (a^^^s) (a^^^s)):=h1.dv.mul _
 rw [JQ] at h3
 have:=h3.xor h2.dv
 rwa [Fi] at this⟩
theorem vw {p n:Nat} (hp:aR p n) (hp64:p<W64) (g k:Nat) (hk:k≤1000) (w:World) (hld:(Instr.loadAt 42 (.pointer (some ⟨g,0,none⟩))).run Tryz.prog w=.ok (.int .u64 (p:Int)) w):
   Calls Tryz.prog 275 #[.int .i64 (k:Int),.pointer (some ⟨g,0,none⟩)] w fun e w'=>∃x:Nat,e=.returned (.int .u64 (x:Int))∧x<W64∧fF p n (sqs 2 k) x∧w'=w:=by
 apply nI
 refine ⟨_,hld,(nU hp hp64 0 2 (by decide) (by decide) w).mono ?_⟩
 rintro e w1 ⟨r,rfl,hr,hr64,rfl⟩
 rw [Nat.zero_mul,Nat.zero_add] at hr
 refine ⟨_,rfl,fun x z w'=>∃(s i:Nat),x=(s:Int)∧z=(i:Int)∧i≤k∧s<W64∧fF p n (sqs 2 i) s∧w'=w1,fun _ z _=>k-z.toNat,⟨r,0,rfl,rfl,by omega,hr64,hr,rfl⟩,?_⟩
 rintro x z w2 ⟨s,i,rfl,rfl,hi,hs,hm,rfl⟩
 refine ⟨fun h=>?_,fun h=>?_⟩
 · have hi':i<k:=by simp at h;omega
   refine ⟨_,hld,(CX hp hp64 s s hs hs w2).mono ?_⟩
   rintro e w3 ⟨r2,rfl,hr2,hr264,rfl⟩
   exact ⟨_,rfl,⟨r2,i+1,rfl,aq hi' (by omega),by omega,hr264,hm.sq hr2,rfl⟩,aB hi' (by omega)⟩
 · have hi':i=k:=by simp at h;omega
   subst hi'
   exact ⟨s,rfl,hs,hm,rfl⟩

theorem vC {p a b:Nat} (h:Dv p (a^^^b)):kj p a↔kj p b:=by
 have key:∀a b,Dv p (a^^^b)→kj p a→kj p b:=fun a b h ha x hx hb=>by
   refine ha x hx ?_
   exact (hx.trans h).Bx hb
 exact ⟨key a b h,key b a (by rw [Nat.xor_comm];exact h)⟩
theorem Ij {p n a b x y:Nat} (hp:aR p n) (hx:fF p n a x) (hy:fF p n b y):x=y↔Dv p (a^^^b):=by
 constructor
 · rintro rfl
   have:=hx.dv.xor hy.dv
   rw [Nat.xor_comm b x,Fi] at this
   exact this
 · intro h
   refine fF.uniq hp (a:=b) ⟨hx.lt,?_⟩ hy
   have:=h.xor hx.dv
   rw [Nat.xor_comm a b,Fi] at this
   exact this

theorem uT:gF Tryz.prog 29 3 1 8 (.int .i64 0):=⟨by kernel_rfl,⟨Tryz.t3,by kernel_rfl,by kernel_rfl,by kernel_rfl,by kernel_rfl⟩,rfl,by decide⟩
def nis (l:List Nat):List Value:=l.map fun (q:Nat)=>.int .i64 (q:Int)
theorem FH {m p g:Nat} (hb:∀q,2≤q→q<p→¬q ∣ m) (hpm:p ∣ m) (hp:2≤p) {m3:Nat} (hg:1<g) (h:g ∣ p*m3):p ∣ g∨g ∣ m3:=by
 by_cases hpg:p ∣ g
 · exact .inl hpg
 · right
   have h1:Nat.gcd g p=1:=by
     have hd:=Nat.gcd_dvd_right g p
     have hl:=Nat.le_of_dvd (by omega) hd
     have h0:Nat.gcd g p≠0:=fun h0=>by rw [h0] at hd;have:=Nat.eq_zero_of_zero_dvd hd;omega
     rcases Nat.lt_or_ge (Nat.gcd g p) p with h2 | h2
     · rcases Nat.lt_or_ge (Nat.gcd g p) 2 with h3 | h3
       · omega
       · exact absurd (Nat.dvd_trans hd hpm) (hb _ h3 h2)
     · have:Nat.gcd g p=p:=by omega
       exact absurd (by have:=Nat.gcd_dvd_left g p;rwa [‹Nat.gcd g p=p›] at this) hpg
   exact Nat.Coprime.dvd_of_dvd_mul_left h1 h

set_option maxHeartbeats 1000000 in
theorem C5 (n : Nat) (h1 : 1 ≤ n) (hn : n ≤ 1000) (w : World) :
   Calls Tryz.prog 278 #[.int .i64 (n:Int)] w fun e w'=>∃(a:Option Addr) (c:Nat) (Q:List Nat),e=.returned (.slice a Q.length c)∧(∀q∈Q,2≤q∧q ∣ n)∧(∀e,1<e→e ∣ n→∃q∈Q,q ∣ e)∧Q.length≤2000∧St w [] w' [.row 3 1 (.slice a Q.length c) Q.length (nis Q)]:=by
 apply xW
 refine ⟨fun x ra rn rc z w'=>∃(m p:Nat) (Q:List Nat),x=(m:Int)∧z=(p:Int)∧rn=Q.length∧1≤m∧m ∣ n∧2≤p∧Q.length≤p∧p≤n+2∧(∀q,2≤q→q<p→¬q ∣ m)∧(∀q∈Q,2≤q∧q ∣ n)∧(∀e,1<e→e ∣ n→(∃q∈Q,q ∣ e)∨∃g,1<g∧g ∣ e∧g ∣ m)∧St w [] w' [.row 3 1 (.slice ra rn rc) rn (nis Q)],fun _ _ _ _ z _=>n+2-z.toNat,
   ⟨n,2,[],rfl,rfl,rfl,h1,Nat.dvd_refl n,by omega,by simp,by omega,fun q h2 h3=>by omega,by simp,fun e h2 h3=>.inr ⟨e,h2,Nat.dvd_refl e,h3⟩,(St.start w).b8 3 1⟩,?_⟩
 rintro x ra rn rc z w1 ⟨m,p,Q,rfl,rfl,rfl,hm1,hmn,hp2,hQp,hpn,hb,hQ,hE,hS⟩
 have hml:m≤n:=Nat.le_of_dvd h1 hmn
 refine ⟨fun hgt=>?_,fun hle=>?_⟩
 · have hm2 : 1 < m := by simp at hgt; omega
   have hpm:p≤m:=Nat.le_of_not_lt fun hl=>hb m hm2 hl (Nat.dvd_refl m)
   have hW:IntKind.wrap .i64 ((p:Int)+1)=((p+1:Nat):Int):=by rw [wrap_i64 (by omega) (by omega)];rfl
   have hmod:∀x:Nat,Int.tmod (x:Int) (p:Int)=((x%p:Nat):Int):=fun x=>by rw [Int.tmod_eq_emod_of_nonneg (by omega)];rfl
   have hdiv:∀x:Nat,Int.tdiv (x:Int) (p:Int)=((x / p:Nat):Int):=fun x=>by rw [Int.tdiv_eq_ediv_of_nonneg (by omega)];rfl
   refine ⟨by omega,fun hne=>?_,fun heq=>?_⟩
   · rw [hmod] at hne
     rw [hW]
     have hnd:¬p ∣ m:=fun hd=>by rw [Nat.mod_eq_zero_of_dvd hd] at hne;simp at hne
     refine ⟨⟨m,p+1,Q,rfl,rfl,rfl,hm1,hmn,by omega,by omega,by omega,fun q h2 h3=>?_,hQ,hE,hS⟩,by simp only [Int.toNat_natCast];omega⟩
     by_cases hq:q=p
     · subst hq;exact hnd
     · exact hb q h2 (by omega)
   · rw [hmod] at heq
     have hd : p ∣ m := Nat.dvd_of_mod_eq_zero (by have : ((m % p : Nat) : Int) = 0 := by simpa using heq
                                                   omega)
     obtain ⟨g,w2,va,vc,w3,r2,r3,h3,_,_⟩:=hS.Jk (i:=0) (ty:=29) uT rfl (.int .i64 (p:Int)) rfl (by omega) (by simp only [maxLen];omega)
     have e1:nis Q++ [Value.int .i64 (p:Int)]=nis (Q++ [p]):=by simp [nis]
     rw [e1] at h3
     have h3:St w [] w3 [.row 3 1 (.slice va (Q.length+1) vc) (Q.length+1) (nis (Q++ [p]))]:=h3
     refine ⟨_,_,_,w2,r2,_,_,_,w3,r3,fun x w'=>∃m2:Nat,x=(m2:Int)∧1≤m2∧m2 ∣ m∧(∀e,1<e→e ∣ n→(∃q∈Q++ [p],q ∣ e)∨∃g,1<g∧g ∣ e∧g ∣ m2)∧w'=w3,fun x _=>x.toNat,⟨m,rfl,hm1,Nat.dvd_refl m,fun e h4 h5=>?_,rfl⟩,?_⟩
     · rcases hE e h4 h5 with ⟨q,hq,k⟩ | k
       · exact .inl ⟨q,List.mem_append_left _ hq,k⟩
       · exact .inr k
     rintro x w4 ⟨m2,rfl,hm21,hm2m,hE2,rfl⟩
     have hm2n:m2≤n:=Nat.le_trans (Nat.le_of_dvd (by omega) hm2m) hml
     refine ⟨by omega,fun hz=>?_,fun hnz=>?_⟩
     · rw [hmod] at hz
       have hd2 : p ∣ m2 := Nat.dvd_of_mod_eq_zero (by have : ((m2 % p : Nat) : Int) = 0 := by simpa using hz
                                                       omega)
       obtain ⟨m3,rfl⟩:=hd2
       have hdv:p*m3 / p=m3:=Nat.mul_div_cancel_left _ (by omega)
       have hm3:1≤m3:=Nat.pos_of_ne_zero fun h0=>by subst h0;simp at hm21
       have hlt:m3<p*m3:=by
         have:=Nat.mul_le_mul_right m3 hp2
         omega
       rw [hdiv,hdv,wrap_i64 (by omega) (by omega)]
       refine ⟨by omega,⟨m3,rfl,hm3,Nat.dvd_trans (Nat.dvd_mul_left m3 p) hm2m,fun e h4 h5=>?_,rfl⟩,by simp only [Int.toNat_natCast];omega⟩
       rcases hE2 e h4 h5 with k | ⟨g,hg,hge,hgm⟩
       · exact .inl k
       · rcases FH hb hd hp2 hg hgm with k | k
         · exact .inl ⟨p,by simp,Nat.dvd_trans k hge⟩
         · exact .inr ⟨g,hg,hge,k⟩
     · rw [hmod] at hnz
       rw [hW]
       have hnd:¬p ∣ m2:=fun hd=>by rw [Nat.mod_eq_zero_of_dvd hd] at hnz;simp at hnz
       refine ⟨⟨m2,p+1,Q++ [p],rfl,rfl,by simp,hm21,Nat.dvd_trans hm2m hmn,by omega,by simp;omega,by omega,fun q h4 h5=>?_,fun q hq=>?_,hE2,by simpa using h3⟩,by simp only [Int.toNat_natCast];omega⟩
       · by_cases hq:q=p
         · subst hq;exact hnd
         · exact fun hd=>hb q h4 (by omega) (Nat.dvd_trans hd hm2m)
       · rcases List.mem_append.1 hq with hq | hq
         · exact hQ q hq
         · simp only [List.mem_singleton] at hq;subst hq;exact ⟨hp2,Nat.dvd_trans hd hmn⟩
 · have hm2:m=1:=by simp at hle;omega
   subst hm2
   refine ⟨ra,rc,Q,rfl,hQ,fun e h2 h3=>?_,by omega,hS⟩
   rcases hE e h2 h3 with k | ⟨g,hg,_,hg1⟩
   · exact k
   · have:=Nat.le_of_dvd (by omega) hg1;omega

end Go.Proofs.YtpmhjnhgpplmnaaGreatDoor
end

section
namespace Go.Proofs.YtpmhjnhgpplmnaaGreatDoor
open Go Sx Gf2
set_option maxRecDepth 8000

theorem Pc:gF Tryz.prog 433 42 1 8 (.int .u64 0):=⟨by kernel_rfl,⟨Tryz.t42,by kernel_rfl,by kernel_rfl,by kernel_rfl,by kernel_rfl⟩,rfl,by decide⟩

theorem Ki {p n:Nat} (hp:aR p n) (hn:1≤n) {Q:List Nat} (hQ:∀q∈Q,2≤q∧q ∣ n) (hE:∀e,1<e→e ∣ n→∃q∈Q,q ∣ e):
   ((∀q∈Q,kj p (sqs 2 (n / q)^^^2))∧Dv p (sqs 2 n^^^2))↔Irr p:=by
 refine NP hp hn Q (fun q hq=>?_) (fun d h1 h2 h3=>?_)
 · obtain ⟨h2,hd⟩:=hQ q hq
   exact ⟨Nat.div_pos (Nat.le_of_dvd hn hd) (by omega),Nat.div_lt_self hn h2⟩
 · obtain ⟨k,hk⟩:=h3
   have hk1:1<k:=by
     rcases Nat.lt_or_ge 1 k with h | h
     · exact h
     · have:d*k≤d*1:=Nat.mul_le_mul_left d h
       omega
   obtain ⟨q,hq,j,hj⟩:=hE k hk1 ⟨d,by rw [Nat.mul_comm];exact hk⟩
   refine ⟨q,hq,j,?_⟩
   have hq2:=(hQ q hq).1
   rw [hk,hj,show d*(q*j)=q*(d*j) from Nat.mul_left_comm _ _ _]
   exact Nat.mul_div_cancel_left _ (by omega)

set_option maxHeartbeats 2000000 in
theorem Jo {p n:Nat} (hp:aR p n) (hn:1≤n) (hp64:p<W64) (w:World):
   Calls Tryz.prog 206 #[.int .u64 (p:Int)] w fun e w'=>∃b:Bool,e=.returned (.bool b)∧(b=true↔Irr p)∧Chg [] w w':=by
 have hn64:=lQ hp hp64
 apply p8
 obtain ⟨g,w1,r1,k1⟩:=(St.start w).box (P:=Tryz.prog) 42 (.int .u64 (p:Int))
 have k1:St w [] w1 [.arr g 42 [.int .u64 (p:Int)]]:=k1
 have ldP:∀ {w' L},St w [] w' (.arr g 42 [.int .u64 (p:Int)]::L)→(Instr.loadAt 42 (.pointer (some ⟨g,0,none⟩))).run Tryz.prog w'=.ok (.int .u64 (p:Int)) w':=fun h=>h.ldL (i:=0) (o:=0) rfl (LG _) rfl rfl
 refine ⟨g,w1,r1,_,ldP k1,(nS p hp64 w1).mono ?_⟩
 rintro e w2 ⟨he,rfl⟩
 rw [iJ hp] at he
 refine ⟨_,he,fun h=>?_,fun _=>⟨.func (.func 275) #[] #[.pointer (some ⟨g,0,none⟩)],w2,by simp [Instr.makeFunc],(C5 n hn (by omega) w2).mono ?_⟩⟩
 · simp at h;omega
 rintro e w4 ⟨a,c,Q,rfl,hQ,hE,hQl,k4⟩
 have R:=Ki hp hn hQ hE
 have k5:=Sx.St.cC (N:=[]) (by rw [List.append_nil];exact k1) k4
 have k5:St w [] w4 [.arr g 42 [.int .u64 (p:Int)],.row 3 1 (.slice a Q.length c) Q.length (nis Q)]:=k5
 let S:World→Prop:=fun w'=>St w [] w' [.arr g 42 [.int .u64 (p:Int)],.row 3 1 (.slice a Q.length c) Q.length (nis Q)]
 refine ⟨_,_,_,rfl,fun x w'=>∃i:Nat,x=(i:Int)∧i≤Q.length∧(∀q∈Q.take i,kj p (sqs 2 (n / q)^^^2))∧S w',fun x _=>Q.length-x.toNat,⟨0,rfl,by omega,by simp,k5⟩,?_⟩
 rintro x w5 ⟨i,rfl,hi,hA,hS⟩
 have hSd:S w5.drew:=Sx.St.drew hS
 refine ⟨fun h=>?_,fun h=>?_⟩
 · have hi' : i < Q.length := by simp at h; omega
   obtain ⟨q,hq⟩:∃q,Q[i]?=some q:=⟨_,List.getElem?_eq_getElem hi'⟩
   have hqm:=List.mem_of_getElem? hq
   obtain ⟨hq2,hqn⟩:=hQ q hqm
   have hcell:(nis Q)[i]?=some (.int .i64 (q:Int)):=by rw [nis,List.getElem?_map,hq];rfl
   have hr:Rd w5 a Q.length c 1 (nis Q):=Sx.St.rd hS (i:=1) rfl
   obtain ⟨b,o,ha,hc⟩:=hr.cells.at_ hcell
   have e1:IntKind.wrap .i64 (Int.tdiv (n:Int) (q:Int))=((n / q:Nat):Int):=by
     rw [Int.tdiv_eq_ediv_of_nonneg (by omega)]
     have:n / q≤n:=Nat.div_le_self n q
     rw [show (n:Int) / (q:Int)=((n / q:Nat):Int) from rfl,tC _ (Nat.lt_of_le_of_lt this (by omega))]
   have hle:n / q≤n:=Nat.div_le_self n q
   refine ⟨b,o,ha,by omega,by omega,_,by rw [Int.toNat_natCast,Nat.mul_one];exact ld1 (CI _) hc,S,hSd,by omega,_,fun w' hw=>ldP hw,_,fun w' hw=>ldP hw,275,[.pointer (some ⟨g,0,none⟩)],rfl,by kernel_rfl,?_⟩
   rw [e1]
   refine (vw hp hp64 g (n / q) (by omega) w5.drew (ldP hSd)).mono ?_
   rintro e w6 ⟨x,rfl,hx64,hx,rfl⟩
   refine ⟨_,rfl,S,fun _ h=>h,hSd,(nU hp hp64 0 2 (by decide) (by decide) _).mono ?_⟩
   rintro e w7 ⟨y,rfl,hy,hy64,rfl⟩
   rw [Nat.zero_mul,Nat.zero_add] at hy
   have hxy:=kR hx64 hy64
   obtain ⟨ga,w8,r8,k8⟩:=(St.start w5.drew).lit Pc [.int .u64 (p:Int),.int .u64 ((x^^^y:Nat):Int)] (by simp [Value.oneCell']) (by simp)
   have hS8:S w8:=Sx.St.same hSd k8.chg
   refine ⟨_,rfl,S,fun _ h=>h,hSd,_,_,_,w8,by rw [x64 hx64 hy64];exact r8,S,fun _ h=>h,hS8,(Kl p (x^^^y) hp64 hxy _ _ w8 (k8.rd (i:=0) rfl)).mono ?_⟩
   rintro e w9 ⟨gg,rfl,hg,_,rfl⟩
   have hAl:kj p (x^^^y)↔kj p (sqs 2 (n / q)^^^2):=vC (by
     rw [AU]
     have h1:=hx.dv
     have h2:=hy.dv
     rw [Nat.xor_comm] at h1 h2
     exact h1.xor h2)
   refine ⟨_,rfl,S,fun _ h=>h,hS8,fun hne=>?_,fun heq=>?_⟩
   · refine ⟨false,rfl,⟨fun h=>(by cases h),fun hI=>?_⟩,Sx.St.chg hS8⟩
     have h1:=(R.2 hI).1 q hqm
     have h2:=hg.alone.2 (hAl.2 h1)
     subst h2
     simp at hne
   · have hg1 : gg = 1 := by have : ((gg : Nat) : Int) = 1 := by simpa using heq
                             omega
     refine ⟨⟨i+1,aq hi' (by omega),by omega,fun q' hq'=>?_,hS8⟩,aB hi' (by omega)⟩
     rw [List.take_add_one,hq] at hq'
     rcases List.mem_append.1 hq' with h1 | h1
     · exact hA q' h1
     · simp only [Option.toList_some,List.mem_singleton] at h1
       subst h1
       exact hAl.1 (hg.alone.1 hg1)
 · have hi':i=Q.length:=by simp at h;omega
   rw [hi',List.take_length] at hA
   refine ⟨S,hSd,_,fun w' hw=>ldP hw,275,[.pointer (some ⟨g,0,none⟩)],rfl,by kernel_rfl,(vw hp hp64 g n (by omega) w5.drew (ldP hSd)).mono ?_⟩
   rintro e w6 ⟨x,rfl,hx64,hx,rfl⟩
   refine ⟨_,rfl,S,fun _ h=>h,hSd,(nU hp hp64 0 2 (by decide) (by decide) _).mono ?_⟩
   rintro e w7 ⟨y,rfl,hy,hy64,rfl⟩
   rw [Nat.zero_mul,Nat.zero_add] at hy
   refine ⟨_,rfl,S,fun _ h=>h,hSd,_,rfl,?_,Sx.St.chg hSd⟩
   have hb:(((x:Nat):Int)==((y:Nat):Int))=true↔x=y:=by simp;omega
   rw [hb,Ij hp hx hy,←R]
   exact ⟨fun h=>⟨hA,h⟩,fun h=>h.2⟩

structure gJ where
 poly:Nat
 win:Int
 min:Int
 max:Int
 bits:Int
def cq (s:gJ):List Value:=[.int .u64 (s.poly:Int),.int .i64 s.win,.int .i64 s.min,.int .i64 s.max,.int .i64 s.bits]
noncomputable def wk (p:Nat):Bool:= @decide (Irr p) (Classical.propDecidable _)
theorem uj (p:Nat):wk p=true↔Irr p:=by unfold wk;exact @decide_eq_true_iff _ (Classical.propDecidable _)
noncomputable def gd1 (s:gJ):Bool:=(decide (8≤jJ s.poly)&&decide (jJ s.poly≤55))&&wk s.poly
def gd2 (s:gJ):Bool:=decide (1≤s.win)&&decide (s.win≤64)
def gd3 (s:gJ):Bool:=decide (s.win≤s.min)&&(decide (s.min≤s.max)&&decide (s.max≤65536))
def gd4 (s:gJ):Bool:=decide (0≤s.bits)&&(decide (s.bits≤jJ s.poly)&&decide (s.bits≤20))
noncomputable def bz (s:gJ):Bool:=gd1 s&&(gd2 s&&(gd3 s&&gd4 s))

theorem Ke {p:Nat} (hp:p<W64) (h8:8≤jJ p):∃n,aR p n∧1≤n∧jJ p=n:=by
 have h0:p≠0:=by rintro rfl;simp [jJ,gX] at h8
 have hd:=aF h0
 have he:=iJ hd
 exact ⟨p.log2,hd,by omega,he⟩
theorem OQ {p:Nat} (hp:p<W64) (h8:8≤jJ p) (w:World):Calls Tryz.prog 206 #[.int .u64 (p:Int)] w fun e w'=>e=.returned (.bool (wk p))∧Chg [] w w':=by
 obtain ⟨n,hd,hn,_⟩:=Ke hp h8
 refine (Jo hd hn hp w).mono ?_
 rintro e w1 ⟨b,rfl,hb,c1⟩
 refine ⟨?_,c1⟩
 have:b=wk p:=by rw [Bool.eq_iff_iff,hb,uj]
 rw [this]

set_option maxHeartbeats 1000000 in
theorem ny (s:gJ) (hp:s.poly<W64) (w:World):Calls Tryz.prog 105 #[.agg (cq s).toArray] w fun e w'=>e=.returned (bk (if bz s then none else some 11))∧Chg [] w w':=by
 apply xB
 obtain ⟨g,w1,r1,k1⟩:=(St.start w).b7 (P:=Tryz.prog) 44 (cq s)
 let K:World→Prop:=fun w'=>St w [] w' [.arr g 44 (cq s)]
 have k1:K w1:=k1
 have ldU:∀ {w'},K w'→(Instr.loadAt 42 (.pointer (some ⟨g,0,none⟩))).run Tryz.prog w'=.ok (.int .u64 (s.poly:Int)) w':=fun h=>Sx.St.ldL h (i:=0) (o:=0) rfl (LG _) rfl rfl
 have ldI:∀ {w'} (o:Nat) (z:Int),(cq s)[o]?=some (.int .i64 z)→K w'→(Instr.loadAt 3 (.pointer (some ⟨g,o,none⟩))).run Tryz.prog w'=.ok (.int .i64 z) w':=fun o z hz h=>by
   have:=Sx.St.ldL h (i:=0) (o:=o) rfl (CI _) rfl hz
   exact this
 let B:World→Prop:=fun w'=>bz s=false∧K w'
 refine ⟨g,w1,r1,_,ldU k1,(nS s.poly hp w1).mono ?_⟩
 rintro e w2 ⟨rfl,rfl⟩
 refine ⟨_,rfl,fun b w'=>b= !gd1 s∧K w',⟨fun h=>?_,fun h=>?_⟩,?_⟩
 · refine ⟨?_,k1⟩
   simp only [Bool.or_eq_true,decide_eq_true_eq] at h
   have:gd1 s=false:=by
     unfold gd1
     rcases h with h | h
     · rw [decide_eq_false (by omega:¬8≤jJ s.poly)];rfl
     · rw [decide_eq_false (by omega:¬jJ s.poly≤55)];simp
   rw [this];rfl
 · simp only [Bool.or_eq_false_iff,decide_eq_false_iff_not] at h
   refine ⟨_,ldU k1,(OQ hp (by omega) w2).mono ?_⟩
   rintro e w3 ⟨rfl,c3⟩
   refine ⟨_,rfl,?_,Sx.St.same k1 c3⟩
   rw [gd1,decide_eq_true (by omega:8≤jJ s.poly),decide_eq_true (by omega:jJ s.poly≤55)]
   rfl
 rintro b w4 ⟨rfl,k4⟩
 refine ⟨B,⟨fun h=>⟨?_,k4⟩,fun h1=>⟨fun b w'=>b= !gd2 s∧K w',⟨_,ldI 1 _ rfl k4,fun h=>⟨?_,k4⟩,fun h=>⟨_,ldI 1 _ rfl k4,?_,k4⟩⟩,?_⟩⟩,?_⟩
 · simp only [bz,Bool.not_eq_true'] at h ⊢;rw [h];rfl
 · simp only [decide_eq_true_eq] at h
   rw [gd2,decide_eq_false (by omega:¬1≤s.win)];rfl
 · simp only [decide_eq_false_iff_not] at h
   rw [gd2,decide_eq_true (by omega:1≤s.win),Bool.true_and,←decide_not]
   exact decide_eq_decide.2 (by omega)
 · rintro b w5 ⟨rfl,k5⟩
   refine ⟨B,⟨fun h=>⟨?_,k5⟩,fun h2=>⟨fun b w'=>b= !gd3 s∧K w',⟨_,ldI 2 _ rfl k5,_,ldI 1 _ rfl k5,fun h=>⟨?_,k5⟩,fun h=>⟨_,ldI 3 _ rfl k5,_,ldI 2 _ rfl k5,fun h'=>⟨?_,k5⟩,fun h'=>⟨_,ldI 3 _ rfl k5,?_,k5⟩⟩⟩,?_⟩⟩,?_⟩
   · simp only [bz,Bool.not_eq_true'] at h ⊢;rw [h];simp
   · simp only [decide_eq_true_eq] at h
     rw [gd3,decide_eq_false (by omega:¬s.win≤s.min)];rfl
   · simp only [decide_eq_true_eq] at h'
     rw [gd3,decide_eq_false (by omega:¬s.min≤s.max)];simp
   · simp only [decide_eq_false_iff_not] at h h'
     rw [gd3,decide_eq_true (by omega:s.win≤s.min),decide_eq_true (by omega:s.min≤s.max),Bool.true_and,Bool.true_and,←decide_not]
     exact decide_eq_decide.2 (by omega)
   · rintro b w6 ⟨rfl,k6⟩
     refine ⟨B,⟨fun h=>⟨?_,k6⟩,fun h3=>⟨fun b w'=>b= !gd4 s∧K w',⟨_,ldI 4 _ rfl k6,fun h=>⟨?_,k6⟩,fun h=>⟨_,ldI 4 _ rfl k6,fun h'=>⟨?_,k6⟩,fun h'=>⟨_,ldI 4 _ rfl k6,?_,k6⟩⟩⟩,?_⟩⟩,?_⟩
     · simp only [bz,Bool.not_eq_true'] at h ⊢;rw [h];simp
     · simp only [decide_eq_true_eq] at h
       rw [gd4,decide_eq_false (by omega:¬0≤s.bits)];rfl
     · simp only [decide_eq_true_eq] at h'
       rw [gd4,decide_eq_false (by omega:¬s.bits≤jJ s.poly)];simp
     · simp only [decide_eq_false_iff_not] at h h'
       rw [gd4,decide_eq_true (by omega:0≤s.bits),decide_eq_true (by omega:s.bits≤jJ s.poly),Bool.true_and,Bool.true_and,←decide_not]
       exact decide_eq_decide.2 (by omega)
     · rintro b w7 ⟨rfl,k7⟩
       refine ⟨fun h=>⟨?_,k7⟩,fun h4=>⟨?_,k7.chg⟩⟩
       · simp only [bz,Bool.not_eq_true'] at h ⊢;rw [h];simp
       · simp only [Bool.not_eq_false'] at h1 h2 h3 h4
         rw [bz,h1,h2,h3,h4];rfl
     · rintro w8 h8;exact h8
   · rintro w9 h9;exact h9
 · rintro w10 ⟨h10,k10⟩
   rw [h10]
   exact ⟨rfl,k10.chg⟩

end Go.Proofs.YtpmhjnhgpplmnaaGreatDoor
end

section
namespace Go.Proofs.YtpmhjnhgpplmnaaGreatDoor
open Go Sx Gf2
set_option maxRecDepth 8000

theorem I4 {q:Nat} (h:q≠0):gX q=gX (q / 2)+1:=by
 by_cases h1:q=1
 · subst h1;decide
 · have:=mL (x:=q) (k:=1) (by omega)
   rw [this,Nat.pow_one];omega
theorem Lt {p:Nat} (hp:p<W64):gX p≤64:=by
 unfold gX
 split
 · omega
 · rename_i h0
   have:=lQ (aF h0) hp
   omega
theorem uH (p : Nat) (hp : p < W64) (w : World) : Calls Tryz.prog 147 #[.int .u64 (p : Int)] w fun e w' => e = .returned (.int .i64 (jJ p)) ∧ w' = w := by
 have hl:=Lt hp
 apply qc
 refine ⟨fun x y w'=>∃q:Nat,x=(q:Int)∧q<W64∧gX q≤gX p∧y=((gX p:Nat):Int)- ((gX q:Nat):Int)-1∧w'=w,fun x _ _=>x.toNat,⟨p,rfl,hp,Nat.le_refl _,by omega,rfl⟩,?_⟩
 rintro x y w1 ⟨q,rfl,hq,hle,rfl,rfl⟩
 refine ⟨fun h=>?_,fun h=>?_⟩
 · have h0:q≠0:=by rintro rfl;simp at h
   have hh:=I4 h0
   have e1:=qK (x:=q) (n:=1) (by decide)
   rw [Nat.pow_one] at e1
   have e1:bK .u64 (q:Int) 1=((q / 2:Nat):Int):=e1
   rw [e1]
   refine ⟨⟨q / 2,rfl,Nat.lt_of_le_of_lt (Nat.div_le_self _ _) hq,by omega,?_,rfl⟩,by simp only [Int.toNat_natCast];omega⟩
   rw [wrap_i64 (by omega) (by omega)];omega
 · have h0 : q = 0 := by have : ((q : Nat) : Int) = 0 := by simpa using h
                         omega
   subst h0
   refine ⟨?_,rfl⟩
   simp [jJ,gX]

theorem GO {x y:Nat} (hx:x%2=0) (hy:y<2):x||| y=x+y:=by
 have:=Nat.shiftLeft_add_eq_or_of_lt (a:=x / 2) (b:=y) (i:=1) (by omega)
 rw [Nat.shiftLeft_eq,Nat.pow_one,show x / 2*2=x by omega] at this
 exact this.symm
theorem yL {hi lo:Nat} (hh:hi<W64) (hl:lo<W64):bor .u64 (cG .u64 (hi:Int) 1) (bK .u64 (lo:Int) 63)=((2*(hi*W64+lo)%2^128 / W64:Nat):Int)∧cG .u64 (lo:Int) 1=((2*(hi*W64+lo)%2^128%W64:Nat):Int):=by
 have e1:cG .u64 (hi:Int) 1=((hi*2%18446744073709551616:Nat):Int):=vW (x:=hi) (n:=1) (by decide)
 have e2:bK .u64 (lo:Int) 63=((lo / 9223372036854775808:Nat):Int):=qK (x:=lo) (n:=63) (by decide)
 have e3:cG .u64 (lo:Int) 1=((lo*2%18446744073709551616:Nat):Int):=vW (x:=lo) (n:=1) (by decide)
 have hh:hi<18446744073709551616:=hh
 have hl:lo<18446744073709551616:=hl
 have h1:hi*2%18446744073709551616<W64:=Nat.mod_lt _ (by decide)
 have h2:lo / 9223372036854775808<W64:=Nat.lt_of_le_of_lt (Nat.div_le_self _ _) hl
 rw [e1,e2,e3,N8 h1 h2,GO (by omega) (by omega)]
 show ((_:Nat):Int)=((2*(hi*18446744073709551616+lo)%340282366920938463463374607431768211456 / 18446744073709551616:Nat):Int)∧((_:Nat):Int)=((2*(hi*18446744073709551616+lo)%340282366920938463463374607431768211456%18446744073709551616:Nat):Int)
 constructor<;>congr 1<;>omega

theorem Lg {a b s t:Nat} (ha:a<2^s) (hb:b<2^t):aD a b<2^(s+t):=by
 by_cases ha0:a=0
 · subst ha0;simp;exact Nat.two_pow_pos _
 by_cases hb0:b=0
 · subst hb0;simp;exact Nat.two_pow_pos _
 have h1:=aR.aD (aF ha0) _ _ (aF hb0)
 have h2:a.log2<s:=Nat.lt_of_not_le fun h=>by
   have:=Nat.pow_le_pow_right (show 0<2 by decide) h
   have:=(aF ha0).1
   omega
 have h3:b.log2<t:=Nat.lt_of_not_le fun h=>by
   have:=Nat.pow_le_pow_right (show 0<2 by decide) h
   have:=(aF hb0).1
   omega
 exact Nat.lt_of_lt_of_le h1.2 (Nat.pow_le_pow_right (by decide) (by omega))
theorem DT (b:Nat) {N i:Nat} (hi:i<N):b / 2^(N-i)=b / 2^(N- (i+1)) / 2∧b*2^i%2^N / 2^(N-1)=b / 2^(N- (i+1))%2:=by
 constructor
 · rw [Nat.div_div_eq_div_mul,←Nat.pow_succ,show (N- (i+1)).succ=N-i by omega]
 · have h1:(2:Nat)^N=2^(N-1)*2:=by rw [←Nat.pow_succ,show (N-1).succ=N by omega]
   have h2:b*2^i / 2^(N-1)=b / 2^(N- (i+1)):=by
     rw [show (2:Nat)^(N-1)=2^(N- (i+1))*2^i by rw [←Nat.pow_add];congr 1;omega]
     exact Nat.mul_div_mul_right _ _ (Nat.two_pow_pos i)
   rw [h1,Nat.mod_mul_right_div_self,h2]
theorem IU (b i:Nat):b*2^i%W64*2%W64=b*2^(i+1)%W64:=by
 rw [Nat.pow_succ,←Nat.mul_assoc]
 generalize b*2^i=x
 show x%18446744073709551616*2%18446744073709551616=x*2%18446744073709551616
 omega
theorem Fg (b i:Nat):2*(b*2^i%2^128)%2^128=b*2^(i+1)%2^128:=by
 rw [Nat.pow_succ 2 i,←Nat.mul_assoc]
 generalize b*2^i=x
 omega

set_option maxHeartbeats 1000000 in
theorem It (a b:Nat) (ha:a<W64) (hb:b<W64) (w:World):
   Calls Tryz.prog 230 #[.int .u64 (a:Int),.int .u64 (b:Int)] w fun e w'=>∃hi lo:Nat,e=.returned (.tuple #[.int .u64 (hi:Int),.int .u64 (lo:Int)])∧hi<W64∧lo<W64∧hi*W64+lo=aD a b∧w'=w:=by
 apply qz
 refine ⟨fun x y z t w'=>∃(hi lo i:Nat),x=((b*2^i%W64:Nat):Int)∧y=(hi:Int)∧z=(lo:Int)∧t=(i:Int)∧i≤64∧hi<W64∧lo<W64∧hi*W64+lo=aD a (b / 2^(64-i))∧w'=w,fun _ _ _ t _=>64-t.toNat,⟨0,0,0,by rw [Nat.pow_zero,Nat.mul_one,Nat.mod_eq_of_lt hb],rfl,rfl,rfl,by omega,by decide,by decide,by rw [Nat.sub_zero,←w64,Nat.div_eq_of_lt hb];simp,rfl⟩,?_⟩
 rintro x y z t w1 ⟨hi,lo,i,rfl,rfl,rfl,rfl,hi64,hh,hl,he,rfl⟩
 refine ⟨fun h=>?_,fun h=>?_⟩
 · have hi':i<64:=by simp at h;omega
   obtain ⟨t1,t2⟩:=DT b hi'
   obtain ⟨c,hc⟩:∃c,b / 2^(64- (i+1))=c:=⟨_,rfl⟩
   rw [hc] at t1 t2
   rw [t1] at he
   rw [←w64] at t2
   obtain ⟨B,hB⟩:∃B,b*2^i%W64=B:=⟨_,rfl⟩
   have hB64:B<W64:=by rw [←hB];exact Nat.mod_lt _ (by decide)
   have hsm:=IU b i
   rw [hB] at t2 hsm ⊢
   have e1:bK .u64 (B:Int) 63=((B / 2^63:Nat):Int):=qK (x:=B) (n:=63) (by decide)
   have e2:cG .u64 (B:Int) 1=((B*2^1%W64:Nat):Int):=vW (x:=B) (n:=1) (by decide)
   rw [Nat.pow_one,hsm] at e2
   have t2:B / 2^63=c%2:=t2
   rw [e1,t2,L9,e2]
   have hv:hi*W64+lo<2^127:=by
     have hc2:c / 2<2^i:=by
       rw [←t1]
       refine (Nat.div_lt_iff_lt_mul (Nat.two_pow_pos _)).2 ?_
       rw [←Nat.pow_add,show i+(64-i)=64 by omega,←w64];exact hb
     have:=Lg (show a<2^64 by rw [←w64];exact ha) hc2
     rw [he]
     exact Nat.lt_of_lt_of_le this (Nat.pow_le_pow_right (by decide) (by omega))
   obtain ⟨p1,p2⟩:=yL hh hl
   rw [p1,p2]
   have hm:2*(hi*W64+lo)%2^128=2*(hi*W64+lo):=Nat.mod_eq_of_lt (by
     have:(2:Nat)^128=2*2^127:=by decide
     omega)
   rw [hm]
   obtain ⟨v,hvv⟩:∃v,hi*W64+lo=v:=⟨_,rfl⟩
   rw [hvv] at he hv ⊢
   have q1:2*v / W64<W64:=by
     refine (Nat.div_lt_iff_lt_mul (by decide)).2 ?_
     have:W64*W64=2*2^127:=by decide
     omega
   have q2:2*v%W64<W64:=Nat.mod_lt _ (by decide)
   have q3:2*v / W64*W64+2*v%W64=2*v:=by rw [Nat.mul_comm];exact Nat.div_add_mod _ _
   have hst:=bO a c
   rw [←he] at hst
   refine ⟨fun x w'=>∃l:Nat,x=(l:Int)∧l<W64∧2*v / W64*W64+l=aD a c∧w'=w1,⟨fun hbit=>?_,fun hbit=>?_⟩,?_⟩
   · have hb1:=of_decide_eq_true hbit
     rw [x64 q2 ha]
     refine ⟨_,rfl,kR q2 ha,?_,rfl⟩
     have:=pN (a:=2*v / W64) (c:=0) q2 ha
     rw [Nat.xor_zero,Nat.zero_mul,Nat.zero_add,q3] at this
     rw [this,hst,if_pos hb1,Nat.xor_comm]
   · have hb0:=of_decide_eq_false hbit
     refine ⟨_,rfl,q2,?_,rfl⟩
     rw [q3,hst,if_neg hb0,Nat.zero_xor]
   · rintro x w2 ⟨l,rfl,hl2,hl3,rfl⟩
     exact ⟨⟨2*v / W64,l,i+1,rfl,rfl,rfl,aq hi' (by omega),by omega,q1,hl2,by rw [hc];exact hl3,rfl⟩,aB hi' (by omega)⟩
 · have hi':i=64:=by simp at h;omega
   subst hi'
   rw [Nat.sub_self,Nat.pow_zero,Nat.div_one] at he
   exact ⟨hi,lo,rfl,hh,hl,he,rfl⟩

end Go.Proofs.YtpmhjnhgpplmnaaGreatDoor
end

section
namespace Go.Proofs.YtpmhjnhgpplmnaaGreatDoor
open Go Sx Gf2
set_option maxRecDepth 8000

theorem vL (q:Nat) (b:Nat) (hb:b<2):2*q+b=b^^^(2*q):=by
 have h1:=pP (2*q+b)
 rw [show (2*q+b) / 2=q by omega,show (2*q+b)%2=b by omega] at h1
 have h2:(if b=1 then 1 else 0)=b:=by split<;>omega
 rw [h2] at h1
 exact h1
theorem J9 {m d c r:Nat} (hm:aR m d) (hd:1≤d) (h:fF m d (c / 2) r):
   (r / 2^(d-1)%2=1→fF m d c ((2*r+c%2)^^^m))∧(r / 2^(d-1)%2≠1→fF m d c (2*r+c%2)):=by
 have hdv:Dv m (c^^^(2*r+c%2)):=by
   have h1:Dv m (2*((c / 2)^^^r)):=by rw [←nr];exact h.dv.mul 2
   rw [wG] at h1
   have e1:c=2*(c / 2)+c%2:=by omega
   have hb:c%2<2:=Nat.mod_lt _ (by decide)
   rw [vL r _ hb]
   have e2:c^^^(c%2^^^2*r)=2*(c / 2)^^^2*r:=by
     have e3:c=c%2^^^2*(c / 2):=by rw [←vL _ _ hb];exact e1
     conv=>lhs;lhs;rw [e3]
     rw [Nat.xor_comm (c%2) (2*(c / 2)),Fi]
   rw [e2];exact h1
 obtain ⟨k,rfl⟩:∃k,d=k+1:=⟨d-1,by omega⟩
 rw [Nat.add_sub_cancel]
 have hr:=h.lt
 obtain ⟨g0,g1⟩:=Gz hr
 have hb:c%2<2:=Nat.mod_lt _ (by decide)
 constructor
 · intro ht
   have hD:=g1 (by omega)
   have hD2:aR (2*r+c%2) (k+1):=by
     have h1:=hD.1
     have h2:=hD.2
     constructor
     · rw [Nat.pow_succ];omega
     · rw [Nat.pow_succ 2 (k+1)];omega
   refine ⟨hD2.nV hm,?_⟩
   rw [←Nat.xor_assoc]
   exact hdv.xor (Dv.self m)
 · intro ht
   have hl:=g0 (by omega)
   exact ⟨by rw [Nat.pow_succ];omega,hdv⟩

set_option maxHeartbeats 2000000 in
theorem uP {m d:Nat} (hm:aR m d) (hm64:m<W64) (hi lo:Nat) (hhi:hi<W64) (hlo:lo<W64) (w:World):
   Calls Tryz.prog 229 #[.int .u64 (hi:Int),.int .u64 (lo:Int),.int .u64 (m:Int)] w fun e w'=>∃r:Nat,e=.returned (.int .u64 (r:Int))∧fF m d (hi*W64+lo) r∧r<W64∧w'=w:=by
 have hd:=lQ hm hm64
 obtain ⟨V,hV⟩:∃V,hi*W64+lo=V:=⟨_,rfl⟩
 have h128:(2:Nat)^128=W64*W64:=by decide
 have hV128:V<2^128:=by
   rw [h128,←hV]
   have:hi*W64+W64≤W64*W64:=by
     have:=Nat.mul_le_mul_right W64 (show hi+1≤W64 from hhi)
     rwa [Nat.add_mul,Nat.one_mul] at this
   omega
 have hd2:2^d≤2^63:=Nat.pow_le_pow_right (by decide) (by omega)
 have hlt:∀r,r<2^d→r<2^63:=fun r h=>Nat.lt_of_lt_of_le h hd2
 have h63:(2:Nat)^63<W64:=by decide
 apply qi
 refine (uH m hm64 w).mono ?_
 rintro e w1 ⟨he,rfl⟩
 rw [iJ hm] at he
 have ewd:IntKind.wrap .u64 (d:Int)=(d:Int):=by rw [wrap_u64];exact Int.emod_eq_of_lt (by omega) (by omega)
 refine ⟨_,he,?_⟩
 try dsimp only
 rw [ewd]
 rw [hV]
 refine ⟨fun x y z t w'=>∃(a b r i:Nat),x=(a:Int)∧y=(b:Int)∧z=(r:Int)∧t=(i:Int)∧i≤128∧a<W64∧b<W64∧a*W64+b=V*2^i%2^128∧fF m d (V / 2^(128-i)) r∧w'=w1,fun _ _ _ t _=>128-t.toNat,⟨hi,lo,0,0,rfl,rfl,rfl,rfl,by omega,hhi,hlo,by rw [Nat.pow_zero,Nat.mul_one,Nat.mod_eq_of_lt hV128,hV],⟨Nat.two_pow_pos d,by rw [Nat.sub_zero,Nat.div_eq_of_lt hV128];exact Dv.zero m⟩,rfl⟩,?_⟩
 rintro x y z t w2 ⟨a,b,r,i,rfl,rfl,rfl,rfl,hi128,ha,hb,hab,hr,rfl⟩
 refine ⟨fun h=>?_,fun h=>?_⟩
 · have hi':i<128:=by simp at h;omega
   obtain ⟨t1,t2⟩:=DT V hi'
   obtain ⟨c,hc⟩:∃c,V / 2^(128- (i+1))=c:=⟨_,rfl⟩
   rw [hc] at t1 t2
   rw [t1] at hr
   rw [←hab] at t2
   obtain ⟨p1,p2⟩:=yL ha hb
   have hsm:=Fg V i
   rw [←hab] at hsm
   rw [hsm] at p1 p2
   obtain ⟨u,hu⟩:∃u,V*2^(i+1)%2^128=u:=⟨_,rfl⟩
   rw [hu] at p1 p2
   have hu128:u<2^128:=by rw [←hu];exact Nat.mod_lt _ (Nat.two_pow_pos _)
   have q1:u / W64<W64:=(Nat.div_lt_iff_lt_mul (by decide)).2 (by rw [←h128];exact hu128)
   have q2:u%W64<W64:=Nat.mod_lt _ (by decide)
   have q3:u / W64*W64+u%W64=u:=by rw [Nat.mul_comm];exact Nat.div_add_mod _ _
   have hbit:a / 2^63=c%2:=by
     rw [←t2]
     have ha:a<18446744073709551616:=ha
     have hb:b<18446744073709551616:=hb
     show a / 9223372036854775808=(a*18446744073709551616+b) / 170141183460469231731687303715884105728
     omega
   have e1:bK .u64 (a:Int) 63=((a / 2^63:Nat):Int):=qK (x:=a) (n:=63) (by decide)
   rw [hbit] at e1
   have hr63:=hlt r hr.lt
   have e2:cG .u64 (r:Int) 1=((r*2^1%W64:Nat):Int):=vW (x:=r) (n:=1) (by decide)
   have e3:r*2^1%W64=2*r:=by
     have hr63:r<9223372036854775808:=hr63
     show r*2%18446744073709551616=2*r
     omega
   rw [e3] at e2
   have hr2:2*r<W64:=by
     have hr63:r<9223372036854775808:=hr63
     show 2*r<18446744073709551616
     omega
   have hc2:c%2<2:=Nat.mod_lt _ (by decide)
   rw [p1,p2]
   refine ⟨fun h0=>?_,fun h0=>?_⟩
   · rw [LI] at h0
     have hd0:=of_decide_eq_true h0
     subst hd0
     refine ⟨⟨_,_,r,i+1,rfl,rfl,rfl,aq hi' (by omega),by omega,q1,q2,by rw [q3,hu],⟨hr.lt,?_⟩,rfl⟩,aB hi' (by omega)⟩
     have hm1:m=1:=by have h1:=hm.1;have h2:=hm.2;simp at h1 h2;omega
     rw [hm1];exact Dv.one _
   · rw [LI] at h0
     have hd0:=of_decide_eq_false h0
     have e4:IntKind.wrap .u64 ((d:Int)-1)=((d-1:Nat):Int):=by rw [wrap_u64,Int.emod_eq_of_lt (by omega) (by omega)];omega
     have hr64:r<W64:=Nat.lt_trans hr63 h63
     have hor:(2*r)||| (c%2)=2*r+c%2:=GO (by omega) hc2
     have hs64:2*r+c%2<W64:=by
       have hr63:r<9223372036854775808:=hr63
       show 2*r+c%2<18446744073709551616
       omega
     obtain ⟨s1,s2⟩:=J9 hm (by omega) hr
     rw [e4,CA hr64 (by omega),L9,e1,e2,N8 hr2 (Nat.lt_of_lt_of_le hc2 (by decide)),hor]
     refine ⟨by omega,fun x w'=>∃r2:Nat,x=(r2:Int)∧fF m d c r2∧w'=w2,⟨fun ht=>?_,fun ht=>?_⟩,?_⟩
     · rw [x64 hs64 hm64]
       exact ⟨_,rfl,s1 (of_decide_eq_true ht),rfl⟩
     · exact ⟨_,rfl,s2 (of_decide_eq_false ht),rfl⟩
     · rintro x w3 ⟨r2,rfl,hr2,rfl⟩
       exact ⟨⟨_,_,r2,i+1,rfl,rfl,rfl,aq hi' (by omega),by omega,q1,q2,by rw [q3,hu],by rw [hc];exact hr2,rfl⟩,aB hi' (by omega)⟩
 · have hi':i=128:=by simp at h;omega
   subst hi'
   rw [Nat.sub_self,Nat.pow_zero,Nat.div_one] at hr
   exact ⟨r,rfl,hr,Nat.lt_trans (hlt r hr.lt) h63,rfl⟩

theorem IJ (p y : Nat) (hp : p < W64) (hy : y < W64) (w : World) :
   Calls Tryz.prog 231 #[.int .u64 (p:Int),.int .u64 (y:Int)] w fun e w'=>∃g:Nat,e=.returned (.int .u64 (g:Int))∧GV p y g∧g<W64∧w'=w:=by
 apply qj
 refine ⟨fun x z w'=>∃(s t:Nat),x=(s:Int)∧z=(t:Int)∧s<W64∧t<W64∧(∀h,(Dv h s∧Dv h t)↔(Dv h p∧Dv h y))∧w'=w,fun _ z _=>z.toNat,⟨p,y,rfl,rfl,hp,hy,fun _=>Iff.rfl,rfl⟩,?_⟩
 rintro x z w2 ⟨s,t,rfl,rfl,hs,ht,hst,rfl⟩
 refine ⟨fun hne=>?_,fun heq=>?_⟩
 · have ht0:t≠0:=by rintro rfl;simp at hne
   refine (uP (aF ht0) ht 0 s (by decide) hs w2).mono ?_
   rintro e w3 ⟨r,rfl,hm,hr64,rfl⟩
   rw [Nat.zero_mul,Nat.zero_add] at hm
   refine ⟨_,rfl,⟨t,r,rfl,rfl,ht,hr64,fun h=>(xD hm h).trans (hst h),rfl⟩,?_⟩
   have:=Nat.lt_of_lt_of_le hm.lt (aF ht0).1
   simp only [Int.toNat_natCast];exact this
 · have ht0 : t = 0 := by have : ((t : Nat) : Int) = 0 := by simpa using heq
                          omega
   subst ht0
   refine ⟨s,rfl,fun h=>?_,hs,rfl⟩
   rw [←hst h]
   exact ⟨fun k=>⟨k,Dv.zero h⟩,fun k=>k.1⟩

set_option maxHeartbeats 1000000 in
theorem IG {p n:Nat} (hp:aR p n) (hn:1≤n) (hp64:p<W64) (w:World):
   Calls Tryz.prog 148 #[.int .u64 (p:Int)] w fun e w'=>e=.returned (.bool (wk p))∧w'=w:=by
 have hn64:=lQ hp hp64
 have R:=NV hp hn
 apply jS
 refine (uH p hp64 w).mono ?_
 rintro e w1 ⟨he,rfl⟩
 rw [iJ hp] at he
 refine ⟨_,he,fun h=>?_,fun _=>(uP hp hp64 0 2 (by decide) (by decide) w1).mono ?_⟩
 · simp at h;omega
 rintro e w2 ⟨y,rfl,hy,hy64,rfl⟩
 rw [Nat.zero_mul,Nat.zero_add] at hy
 refine ⟨_,rfl,fun x z w'=>∃(s i:Nat),x=(s:Int)∧z=((i+1:Nat):Int)∧2*i≤n∧s<W64∧fF p n (sqs 2 i) s∧(∀j,1≤j→j≤i→kj p (sqs 2 j^^^2))∧w'=w2,fun _ z _=>n+2-z.toNat,⟨y,0,rfl,rfl,by omega,hy64,hy,fun j h1 h2=>by omega,rfl⟩,?_⟩
 rintro x z w3 ⟨s,i,rfl,rfl,hi,hs,hm,hA,rfl⟩
 have e2:IntKind.wrap .i64 ((2:Int)*((i+1:Nat):Int))=((2*(i+1):Nat):Int):=by rw [wrap_i64 (by omega) (by omega)];omega
 rw [e2]
 refine ⟨fun h=>?_,fun h=>?_⟩
 · have hle : 2 * (i + 1) ≤ n := by
     have:=of_decide_eq_true h
     omega
   refine (It s s hs hs w3).mono ?_
   rintro e w4 ⟨hi2,lo2,rfl,h1,h2,h3,rfl⟩
   refine ⟨_,_,rfl,(uP hp hp64 hi2 lo2 h1 h2 w4).mono ?_⟩
   rintro e w5 ⟨x,rfl,hx,hx64,rfl⟩
   rw [h3] at hx
   have hx:fF p n (sqs 2 (i+1)) x:=hm.sq hx
   refine ⟨_,rfl,?_⟩
   rw [x64 hx64 hy64]
   refine (IJ p (x^^^y) hp64 (kR hx64 hy64) w5).mono ?_
   rintro e w6 ⟨g,rfl,hg,_,rfl⟩
   have hAl:kj p (x^^^y)↔kj p (sqs 2 (i+1)^^^2):=vC (by
     rw [AU]
     have h1:=hx.dv
     have h2:=hy.dv
     rw [Nat.xor_comm] at h1 h2
     exact h1.xor h2)
   refine ⟨_,rfl,fun hne=>⟨?_,rfl⟩,fun heq=>?_⟩
   · have:wk p=false:=by
       rw [Bool.eq_false_iff]
       intro hI
       have h1:=R.2 ((uj p).1 hI) (i+1) (by omega) hle
       have h2:=hg.alone.2 (hAl.2 h1)
       subst h2
       simp at hne
     rw [this]
   · have hg1 : g = 1 := by have : ((g : Nat) : Int) = 1 := by simpa using heq
                            omega
     have eW:IntKind.wrap .i64 (((i+1:Nat):Int)+1)=((i+1+1:Nat):Int):=by rw [wrap_i64 (by omega) (by omega)];rfl
     rw [eW]
     refine ⟨⟨x,i+1,rfl,rfl,hle,hx64,hx,fun j h1 h2=>?_,rfl⟩,by simp only [Int.toNat_natCast];omega⟩
     by_cases hj:j=i+1
     · subst hj;exact hAl.1 (hg.alone.1 hg1)
     · exact hA j h1 (by omega)
 · have hgt:¬2*(i+1)≤n:=by
     have:=of_decide_eq_false h
     omega
   refine ⟨?_,rfl⟩
   have:wk p=true:=(uj p).2 (R.1 fun j h1 h2=>hA j h1 (by omega))
   rw [this]

end Go.Proofs.YtpmhjnhgpplmnaaGreatDoor
end

section
namespace Go.Proofs.YtpmhjnhgpplmnaaGreatDoor
open Go Sx Gf2
set_option maxRecDepth 8000

theorem NR {p:Nat} (hp:p<W64) (h8:8≤jJ p) (w:World):Calls Tryz.prog 148 #[.int .u64 (p:Int)] w fun e w'=>e=.returned (.bool (wk p))∧w'=w:=by
 obtain ⟨n,hd,hn,_⟩:=Ke hp h8
 exact IG hd hn hp w
def dg (s:gJ):Bool:=decide (8≤jJ s.poly)&&decide (jJ s.poly≤55)
theorem xd (s:gJ):bz s=((dg s&&(gd2 s&&(gd3 s&&gd4 s)))&&wk s.poly):=by
 unfold bz gd1 dg
 cases decide (8≤jJ s.poly)<;>cases decide (jJ s.poly≤55)<;>cases wk s.poly<;>cases gd2 s<;>cases gd3 s<;>cases gd4 s<;>rfl

set_option maxHeartbeats 1000000 in
theorem sQ (s:gJ) (hp:s.poly<W64) (w:World):Calls Tryz.prog 56 #[.agg (cq s).toArray] w fun e w'=>e=.returned (.int .i64 (if bz s then 0 else 11))∧Chg [] w w':=by
 apply nO
 obtain ⟨g,w1,r1,k1⟩:=(St.start w).b7 (P:=Tryz.prog) 44 (cq s)
 let K:World→Prop:=fun w'=>St w [] w' [.arr g 44 (cq s)]
 have k1:K w1:=k1
 have ldU:∀ {w'},K w'→(Instr.loadAt 42 (.pointer (some ⟨g,0,none⟩))).run Tryz.prog w'=.ok (.int .u64 (s.poly:Int)) w':=fun h=>Sx.St.ldL h (i:=0) (o:=0) rfl (LG _) rfl rfl
 have ldI:∀ {w'} (o:Nat) (z:Int),(cq s)[o]?=some (.int .i64 z)→K w'→(Instr.loadAt 3 (.pointer (some ⟨g,o,none⟩))).run Tryz.prog w'=.ok (.int .i64 z) w':=fun o z hz h=>by
   have:=Sx.St.ldL h (i:=0) (o:=o) rfl (CI _) rfl hz
   exact this
 refine ⟨g,w1,r1,_,ldU k1,(uH s.poly hp w1).mono ?_⟩
 rintro e w2 ⟨rfl,rfl⟩
 refine ⟨_,rfl,fun b w'=>b=(dg s&&(gd2 s&&gd3 s))∧K w',⟨fun hd=>⟨_,ldI 1 _ rfl k1,fun h1=>⟨_,ldI 1 _ rfl k1,fun h2=>⟨_,ldI 1 _ rfl k1,_,ldI 2 _ rfl k1,fun h3=>⟨_,ldI 2 _ rfl k1,_,ldI 3 _ rfl k1,fun h4=>⟨_,ldI 3 _ rfl k1,?_,k1⟩,fun h4=>⟨?_,k1⟩⟩,fun h3=>⟨?_,k1⟩⟩,fun h2=>⟨?_,k1⟩⟩,fun h1=>⟨?_,k1⟩⟩,fun hd=>⟨?_,k1⟩⟩,?_⟩
 · simp only [ge_iff_le] at hd h1 h2 h3 h4 ⊢
   have hd:dg s=true:=hd
   rw [hd,gd2,gd3,h1,h2,h3,h4];simp
 · simp only [ge_iff_le] at hd h1 h2 h3 h4 ⊢
   rw [gd3,h4];simp
 · rw [gd3,h3];simp
 · rw [gd2,h2];simp
 · simp only [ge_iff_le] at h1 ⊢
   rw [gd2,h1];simp
 · simp only [ge_iff_le] at hd ⊢
   have hd:dg s=false:=hd
   rw [hd];rfl
 rintro b w3 ⟨rfl,k3⟩
 refine ⟨fun b w'=>b=(dg s&&(gd2 s&&(gd3 s&&gd4 s)))∧K w',⟨fun ha=>⟨_,ldI 4 _ rfl k3,fun h1=>⟨_,ldI 4 _ rfl k3,fun h2=>⟨_,ldI 4 _ rfl k3,?_,k3⟩,fun h2=>⟨?_,k3⟩⟩,fun h1=>⟨?_,k3⟩⟩,fun ha=>⟨?_,k3⟩⟩,?_⟩
 · simp only [ge_iff_le] at h1 h2 ⊢
   simp only [Bool.and_eq_true] at ha
   rw [ha.1,ha.2.1,ha.2.2,gd4,h1,h2];simp
 · simp only [ge_iff_le] at h1 h2 ⊢
   rw [gd4,h2];simp
 · simp only [ge_iff_le] at h1 ⊢
   rw [gd4,h1];simp
 · revert ha
   cases dg s<;>cases gd2 s<;>cases gd3 s<;>simp
 rintro b w4 ⟨rfl,k4⟩
 refine ⟨fun b w'=>b= !bz s∧K w',⟨fun ha=>⟨?_,k4⟩,fun ha=>⟨_,ldU k4,(NR hp ?_ w4).mono ?_⟩⟩,?_⟩
 · simp only [Bool.not_eq_true'] at ha
   rw [xd,ha];rfl
 · simp only [Bool.not_eq_false',Bool.and_eq_true] at ha
   have:=ha.1
   simp only [dg,Bool.and_eq_true,decide_eq_true_eq] at this
   exact this.1
 · rintro e w5 ⟨rfl,rfl⟩
   simp only [Bool.not_eq_false'] at ha
   exact ⟨_,rfl,by rw [xd,ha];simp,k4⟩
 · rintro b w6 ⟨rfl,k6⟩
   refine ⟨fun h=>?_,fun h=>?_⟩
   · simp only [Bool.not_eq_true'] at h
     rw [h];exact ⟨rfl,k6.chg⟩
   · simp only [Bool.not_eq_false'] at h
     rw [h];exact ⟨rfl,k6.chg⟩

end Go.Proofs.YtpmhjnhgpplmnaaGreatDoor
end

section
namespace Go.Proofs.YtpmhjnhgpplmnaaGreatDoor
open Go Sx
set_option maxRecDepth 8000

structure dY where
 name:List UInt8
 time:Int
 size:Int
 chunks:Int
 root:List UInt8
 rl:root.length=32
def fH (s:dY):List Value:=[aJ s.name,.int .i64 s.time,.int .i64 s.size,.int .i64 s.chunks]++bv s.root
theorem iX (s:dY):(fH s).length=36:=by simp [fH,s.rl]
theorem uM (s:dY):∀v∈fH s,v.oneCell'=true:=fun v hv=>by
 simp only [fH,List.mem_append,List.mem_cons,List.not_mem_nil,or_false] at hv
 rcases hv with (rfl | rfl | rfl | rfl) | h
 · rfl
 · rfl
 · rfl
 · rfl
 · exact aG _ v h
abbrev RdS (w:World) (a:Option Addr) (n c:Nat) (l:List dY):Prop:=RdE fH 36 w a n c l
def iv (l:List Int):List Value:=l.map fun z=>.int .i64 z
@[simp] theorem Pv (l:List Int):(iv l).length=l.length:=by simp [iv]
theorem Kb (l:List Int) (i:Nat):(iv l)[i]?=l[i]?.map fun z=>.int .i64 z:=by simp [iv]
theorem MJ (l:List Int):∀v∈iv l,v.oneCell'=true:=fun v hv=>by
 simp only [iv,List.mem_map] at hv
 obtain ⟨z,_,rfl⟩:=hv
 rfl

end Go.Proofs.YtpmhjnhgpplmnaaGreatDoor
end
