/- The proof of RepoNoneCardSaid, part 5: what it rests on (conditions: those that each theorem names). -/
import Derived.Test.YtpmhjnhgpplmnaaGreatDoorS4
import Derived.Test.YtpmhjnhgpplmnaaGreatDoorRows
import Derived.Shelf.SlGeneric
import Derived.Shelf.SlIter.Sorted
import Derived.Shelf.SortM.Plain
import Derived.Shelf.SortM.SortNone
import Derived.Ground.GgzProg
import Derived.Ground.SlgmProg
import Derived.Test.YtpmhjnhgpplmnaaGreatDoorProg
import Derived.WalkKit
import Derived.LaidEql
import Derived.Stop.Asserts
import Derived.RowKitTokens
section
namespace Go.Proofs.YtpmhjnhgpplmnaaGreatDoor
open Go Sx
set_option maxRecDepth 8000

def xJ (s:List UInt8):Bool:=s.all (fun b=>decide (33≤b.toNat∧b.toNat≤126))&&(decide (1≤s.length)&&decide (s.length≤32))
theorem L8 {s:List UInt8} {i:Nat} {b:UInt8} (p:UInt8→Bool) (hb:s[i]?=some b):(s.take (i+1)).all p=((s.take i).all p&&p b):=by
 rw [List.take_add_one,hb];simp

theorem Di (s:List UInt8) (hs:s.length≤4611686018427387904) (w:World):Calls Tryz.prog 28 #[aJ s] w fun e w'=>e=.returned (.bool (xJ s))∧w'=w:=by
 apply qu
 rw [Kv,JT]
 refine ⟨fun x w'=>∃i:Nat,x=(i:Int)∧i≤s.length∧(s.take i).all (fun b=>decide (33≤b.toNat∧b.toNat≤126))=true∧w'=w,fun x _=>s.length-x.toNat,⟨0,rfl,by omega,by simp,rfl⟩,?_⟩
 rintro x w1 ⟨i,rfl,hi,hA,rfl⟩
 refine ⟨fun h=>?_,fun h=>?_⟩
 · have hi':i<s.length:=by simp at h;omega
   have hix:=NF (l:=s) (i:=i) hi' w1
   have hb:s[i]?=some (s.getD i 0):=by simp [List.getD,hi']
   obtain ⟨b,hbe⟩:∃b,s.getD i 0=b:=⟨_,rfl⟩
   rw [hbe] at hix hb
   refine ⟨fun y w'=>y= !decide (33≤b.toNat∧b.toNat≤126)∧w'=w1,⟨_,hix,fun h=>⟨?_,rfl⟩,fun h=>⟨_,hix,?_,rfl⟩⟩,?_⟩
   · simp only [decide_eq_true_eq] at h
     rw [decide_eq_false (by omega)];rfl
   · simp only [decide_eq_false_iff_not] at h
     rw [←decide_not]
     exact decide_eq_decide.2 (by omega)
   · rintro y w2 ⟨rfl,rfl⟩
     refine ⟨fun h=>⟨?_,rfl⟩,fun h=>⟨⟨i+1,aq hi' hs,by omega,?_,rfl⟩,aB hi' hs⟩⟩
     · have hbad:decide (33≤b.toNat∧b.toNat≤126)=false:=by rwa [Bool.not_eq_true'] at h
       have:s.all (fun b=>decide (33≤b.toNat∧b.toNat≤126))=false:=by
         rw [List.all_eq_false]
         exact ⟨b,List.mem_of_getElem? hb,by rw [hbad];simp⟩
       rw [xJ,this];rfl
     · have hok:decide (33≤b.toNat∧b.toNat≤126)=true:=by rwa [Bool.not_eq_false'] at h
       rw [L8 _ hb,hA,hok];rfl
 · have hi':i=s.length:=by simp at h;omega
   subst hi'
   rw [List.take_length] at hA
   refine ⟨?_,rfl⟩
   rw [xJ,hA]
   cases s with
   | nil=>rfl
   | cons c r=>simp;omega
end Go.Proofs.YtpmhjnhgpplmnaaGreatDoor
end

section
namespace Go.Proofs.YtpmhjnhgpplmnaaGreatDoor
open Go Sx
set_option maxRecDepth 8000

def bP (s:dY):Bool:=xJ s.name&&(decide (s.time≥(-1099511627776))&&(decide (s.time≤1099511627776)&&(decide (s.size≥0)&&(decide (s.chunks≥0)&&decide (s.chunks≤65536)))))
theorem Gk (w:World):(isAgg 9).run Tryz.prog w=.ok false w:=Tryz.isAgg9 w
theorem zA (s:dY) (hs:s.name.length≤4611686018427387904) (w:World):Calls Tryz.prog 106 #[.agg (fH s).toArray] w fun e w'=>e=.returned (.bool (bP s))∧Chg [] w w':=by
 apply lW
 obtain ⟨g,w1,r1,k1⟩:=(St.start w).b7 (P:=Tryz.prog) 89 (fH s)
 have k1:St w [] w1 [.arr g 89 (fH s)]:=k1
 have ldI:∀(o:Nat) (z:Int),(fH s)[o]?=some (.int .i64 z)→(Instr.loadAt 3 (.pointer (some ⟨g,o,none⟩))).run Tryz.prog w1=.ok (.int .i64 z) w1:=fun o z hz=>by
   have:=k1.ldL (i:=0) (o:=o) rfl (CI _) rfl hz
   exact this
 refine ⟨g,w1,r1,_,k1.ldL (i:=0) (o:=0) rfl (Gk _) rfl rfl,(Di s.name hs w1).mono ?_⟩
 rintro e w2 ⟨rfl,rfl⟩
 refine ⟨_,rfl,fun hn=>⟨_,ldI 1 _ rfl,fun h1=>⟨_,ldI 1 _ rfl,fun h2=>⟨_,ldI 2 _ rfl,fun h3=>⟨_,ldI 3 _ rfl,fun h4=>⟨_,ldI 3 _ rfl,?_,k1.chg⟩,fun h4=>⟨?_,k1.chg⟩⟩,fun h3=>⟨?_,k1.chg⟩⟩,fun h2=>⟨?_,k1.chg⟩⟩,fun h1=>⟨?_,k1.chg⟩⟩,fun hn=>⟨?_,k1.chg⟩⟩
 · rw [bP,hn,h1,h2,h3,h4];rfl
 · rw [bP,hn,h1,h2,h3,h4];rfl
 · rw [bP,hn,h1,h2,h3];rfl
 · rw [bP,hn,h1,h2];rfl
 · rw [bP,hn,h1];rfl
 · rw [bP,hn];rfl

structure PkD where
 num:Int
 size:Int
 count:Int
def pkC (p:PkD):List Value:=[.int .i64 p.num,.int .i64 p.size,.int .i64 p.count]
structure bR where
 gen:Int
 next:Int
 set:gJ
 snaps:List dY
 aj:List PkD
def bV (C:bR) (sa:Option Addr) (sn sc:Nat) (pa:Option Addr) (pn pc:Nat):List Value:=[.int .i64 C.gen,.int .i64 C.next]++(cq C.set++ [.slice sa sn sc,.slice pa pn pc])
theorem Kf (C:bR) (sa:Option Addr) (sn sc:Nat) (pa:Option Addr) (pn pc:Nat):(bV C sa sn sc pa pn pc).length=9:=rfl
structure Bo (w:World) (C:bR) (sa:Option Addr) (sn sc:Nat) (pa:Option Addr) (pn pc:Nat):Prop where
 poly:C.set.poly<W64
 snaps:RdS w sa sn sc C.snaps
 aj:RdE pkC 3 w pa pn pc C.aj
 names:∀s∈C.snaps,s.name.length≤4611686018427387904
theorem Bo.an {w w':World} {C:bR} {sa:Option Addr} {sn sc:Nat} {pa:Option Addr} {pn pc:Nat} (h:Bo w C sa sn sc pa pn pc) (hc:Chg [] w w'):Bo w' C sa sn sc pa pn pc:=⟨h.poly,h.snaps.an hc,h.aj.an hc,h.names⟩
def vT (l:List dY) (j:Nat):Bool:=j==0||lexLt (((l[j-1]?).map dY.name).getD []) (((l[j]?).map dY.name).getD [])
def FB (l:List dY):Bool:=(List.range l.length).all (vT l)
def oo (next:Int):Int→List PkD→Bool
 | _,[]=>true
 | last,p::r=>(decide (last<p.num)&&(decide (p.num<next)&&(decide (0≤p.size)&&decide (0≤p.count))))&&oo next p.num r
noncomputable def jL (C:bR):Bool:=(decide (1≤C.gen)&&(decide (C.gen≤1099511627776)&&(decide (0≤C.next)&&decide (C.next≤1099511627776))))&&(bz C.set&&(decide (C.snaps.length≤64)&&decide (C.aj.length≤1024)))
noncomputable def aH (C:bR):Bool:=jL C&&(C.snaps.all bP&&(FB C.snaps&&oo C.next (-1) C.aj))

end Go.Proofs.YtpmhjnhgpplmnaaGreatDoor
end

section
namespace Go.Proofs.YtpmhjnhgpplmnaaGreatDoor.Sx
open Go
set_option maxRecDepth 8000

theorem J6 (l m:List UInt8):((⟨l.toArray⟩:ByteArray)==⟨m.toArray⟩)=decide (l=m):=by
 show (l.toArray==m.toArray)=decide (l=m)
 by_cases h:l=m
 · subst h;simp
 · have:¬l.toArray=m.toArray:=fun e=>h (by have:=congrArg Array.toList e;simpa using this)
   simp [h]

theorem vK {α:Type} {val:α→Value} {kid:α→List UInt8} (id:List UInt8):∀(L:List MapEntry) (M:List α) (i:Nat),L.map (fun x=>(x.key,x.val))=M.map (fun r=>(aJ (kid r),val r))→
   Instr.findNow .string (aJ id) L i=some ((M.findIdx? fun r=>kid r==id).bind fun j=>(M[j]?).map fun r=>(i+j,val r))
 | [],[],i,_=>by simp [Instr.findNow]
 | [],r::M,i,he=>by simp at he
 | x::L,[],i,he=>by simp at he
 | x::L,r::M,i,he=>by
   simp only [List.map_cons,List.cons.injEq,Prod.mk.injEq] at he
   obtain ⟨⟨e1,e2⟩,e3⟩:=he
   have ih:=vK (val:=val) (kid:=kid) id L M (i+1) e3
   have hs:Instr.sameNow .string (aJ id) x.key=some (decide (id=kid r)):=by
     rw [e1,aJ,aJ]
     simp only [Instr.sameNow,J6]
   rw [Instr.findNow,hs]
   by_cases h:kid r=id
   · simp [h,e2,List.findIdx?_cons]
   · have h':¬id=kid r:=fun e=>h e.symm
     simp only [h',decide_false,ih,List.findIdx?_cons,beq_iff_eq,h,if_false]
     cases hf:M.findIdx? fun r=>kid r==id with
     | none=>simp
     | some j=>simp [Nat.add_assoc,Nat.add_comm 1]

theorem Lz {P:Program} {KT:TypeId} (hT:P.underlying KT=some .string) (id:List UInt8) (em:Bool) (d:Nat) (w:World):(Instr.checkKey em (d+1) KT (aJ id)).run P w=.ok () w:=by
 simp [Instr.checkKey,run_underlying hT,aJ]
theorem K0 (id:List UInt8) (d:Nat):Instr.sameBits (d+1) (aJ id) (aJ id)=true:=by
 simp only [Instr.sameBits,aJ,J6,decide_true]

theorem Ls {P:Program} {KT:TypeId} (hT:P.underlying KT=some .string):FX P KT aJ (fun _=>True):=
 ⟨fun id _ em w=>Lz hT id em 9999 w,
  fun α val kid L M id _ w he _=>by
   have:=vK (val:=val) (kid:=kid) id L M 0 he
   simp only [Nat.zero_add] at this
   simp only [Instr.findKey,Sem.run_bind,run_underlying hT,Result.andThen_ok,this]
   rfl,
  fun id w=>by
   unfold Instr.keyThatStays
   have:Instr.sameBits 10000 (aJ id) (aJ id)=true:=K0 id 9999
   simp [this]⟩

end Go.Proofs.YtpmhjnhgpplmnaaGreatDoor.Sx
end

section
namespace Go.Proofs.YtpmhjnhgpplmnaaGreatDoor
open Go Go.Proofs.YtpmhjnhgpplmnaaGreatDoor.Sx
set_option maxRecDepth 100000
variable (w:World) (R:Ending→World→Prop)
abbrev M6 (a:Value) (b:World) (c:Ending→World→Prop) (d e:Int) (f:Value):Prop:=Nez .neq 58 (.tmp 18) a b fun g=>Ifz g (c (.returned (.tuple #[.slice none 0 0,a])) b) (∃a:Bool→World→Prop,Ifz (decide (d<(0:Int))||decide (e<(0:Int))) (a true b) (∃c g,f=.pointer (some ⟨c,g,none⟩)∧Llz 26 c g b fun c g h=>Ifz (decide (d>(g:Int))) (a true b) (∃c g,f=.pointer (some ⟨c,g,none⟩)∧Llz 26 c g b fun c f g=>a (decide (e>IntKind.wrap .i64 ((f:Int)-d))) b))∧∀b g,a b g→Ifz b (c (.returned (.tuple #[.slice none 0 0,.iface 65 (.int .i64 7)])) g) (∃a b,f=.pointer (some ⟨a,b,none⟩)∧Llz 26 a b g fun a b f=>0≤d∧d≤IntKind.wrap .i64 (d+e)∧IntKind.wrap .i64 (d+e)≤(f:Int)∧∀b,iU 1 a (Int.toNat d) f b→Clz 150 #[.slice b (Int.toNat (IntKind.wrap .i64 (d+e))-Int.toNat d) (f-Int.toNat d)] g fun a b d e=>c (.returned (.tuple #[.slice a b d,.nilIface])) e))
abbrev JR (a:World) (b:Array Value) (c d:Nat) (e:Ending→World→Prop):Prop:=Alz 164 a fun a f=>Stz 164 a 0 (.agg b) f fun b=>∃f:World→Prop,f b.drew∧∃g,(∀a,f a→(Instr.loadAt 149 (.pointer (some ⟨c,d+6,none⟩))).run Tryz.prog a=.ok g a)∧∃h,(∀b,f b→LdQ 164 a 0 (.agg h) b)∧Calls Tryz.prog 79 #[g,.agg h] b.drew fun b g=>b=.returned (.tuple #[])∧∃b:World→Prop,(∀a,b a→f a)∧b g∧∃b:World→Prop,b g.drew∧∃f h i,(∀a,b a→LdQ 150 c (d+8) (.slice f h i) a)∧∃j,(∀c,b c→LdQ 164 a 0 (.agg j) c)∧Bsz 150 1 #[(0,.agg j)] g.drew fun a g j k=>∃l:World→Prop,(∀a,l a→b a)∧l k∧Apz 150 (.slice f h i) (.slice a g j) k fun a b f g=>∃h:World→Prop,(∀a,h a→l a)∧h g∧Stz 150 c (d+8) (.slice a b f) g fun a=>e (.returned .nilIface) a
theorem CD (a:Int) (h:Ifz (decide (a<(0:Int))||decide (a>(67108864:Int))) (R (.returned (.tuple #[.pointer none,.iface 65 (.int .i64 7)])) w) (∃b c,(Instr.makeMap 149 none).run Tryz.prog w=.ok b c∧∃d e,(Instr.makeMap 149 none).run Tryz.prog c=.ok d e∧Buz 152 #[(1,.int .i64 a),(2,b),(3,d)] e fun a=>Bxz 152 (.agg a) e fun a b=>R (.returned (.tuple #[.pointer (some ⟨a,0,none⟩),.nilIface])) b)):Calls Tryz.prog 55 #[.int .i64 a] w R:=aa 0xd78395951c003d302bec22d Tryz.func55 (by kernel_rfl) h
theorem uC (a:ByteArray) (h:Ifz (a.toList==(ByteArray.mk #[]).toList||decide ((a.size:Int)>64)) (R (.returned (.bool false)) w) (∃(b:Int→World→Prop) (c:Int→World→Nat),b 0 w∧∀d e,b d e→Ifz (decide (d<(a.size:Int))) (∃f:Bool→World→Prop,(∃b,(Instr.index 9 (.string a) (.int .i64 d)).run Tryz.prog e=.ok (.int .u8 b) e∧Ifz (decide (b<(33:Int))) (f true e) (∃b,(Instr.index 9 (.string a) (.int .i64 d)).run Tryz.prog e=.ok (.int .u8 b) e∧Ifz (decide (b>(126:Int))) (f true e) (∃b,(Instr.index 9 (.string a) (.int .i64 d)).run Tryz.prog e=.ok (.int .u8 b) e∧f (b==(47:Int)) e)))∧∀a g,f a g→Ifz a (R (.returned (.bool false)) g) (b (IntKind.wrap .i64 (d+1)) g∧c (IntKind.wrap .i64 (d+1)) g<c d e)) (R (.returned (.bool true)) e))):Calls Tryz.prog 256 #[.string a] w R:=aa 0x1d2b001d30d13d0523ace13d01b22ccd13d14113f128281a22d8200321d0111d12c1d222983d2001d303bec21d Tryz.func256 (by kernel_rfl) h
theorem rN (a b:Nat) (h:∃c:Bool→World→Prop,Lbz 4 a (b+2) w (fun d=>Ifz d (Liz 3 a (b+3) w (fun a=>c (a==(0:Int)) w)) (c false w))∧∀d e,c d e→Ifz d (Stz 4 a (b+1) (.bool true) e (fun a=>R (.returned (.iface 65 (.int .i64 1))) a)) (Liz 3 a b e (fun c=>Stz 3 a b (.int .i64 (IntKind.wrap .i64 (c+1))) e fun c=>Liz 3 a (b+3) c fun d=>Stz 3 a (b+3) (.int .i64 (IntKind.wrap .i64 (d- (1:Int)))) c fun c=>Llz 29 a (b+4) c fun d e f=>Ifz ((e:Int)==0) (R (.returned .nilIface) c) (Llz 29 a (b+4) c (fun d e f=>∃f g,d=some ⟨f,g,none⟩∧0≤(0:Int)∧0<(e:Int)∧Liz 3 f (g+Int.toNat (0:Int)*1) c fun d=>Ifz (d==(0:Int)) (Llz 29 a (b+4) c (fun d e f=>0≤(1:Int)∧1≤(e:Int)∧(e:Int)≤(f:Int)∧∀g,iU 1 d 1 f g→Stz 29 a (b+4) (.slice g (e-1) (f-1)) c fun a=>R (.returned (.iface 65 (.int .i64 2))) a)) (Llz 29 a (b+4) c (fun a b d=>∃d e,a=some ⟨d,e,none⟩∧0≤(0:Int)∧0<(b:Int)∧Liz 3 d (e+Int.toNat (0:Int)*1) c fun d=>∃e f,a=some ⟨e,f,none⟩∧0≤(0:Int)∧0<(b:Int)∧Stz 3 e (f+Int.toNat (0:Int)*1) (.int .i64 (IntKind.wrap .i64 (d- (1:Int)))) c fun a=>R (.returned .nilIface) a))))))):Calls Tryz.prog 178 #[.pointer (some ⟨a,b,none⟩)] w R:=aa 0x1d068103873ec002d06d97342c30103873ec2001d30d73ec206e03ec06e03ec002d06ec30620d03e7c143e14111d11b31a221d Tryz.func178 (by kernel_rfl) h
theorem rz (a b:Nat) (c:Option Addr) (d e:Nat) (h:Lbz 4 a (b+1) w fun a=>Ifz a (R (.returned (.iface 65 (.int .i64 1))) w) (∃(a:Int→World→Prop) (b:Int→World→Nat),a 0 w∧∀e f,a e f→Ifz (decide (e<(d:Int))) (∃g h,c=some ⟨g,h,none⟩∧0≤e∧e<(d:Int)∧Lsz 9 g (h+Int.toNat e*1) f fun c=>Cbz 256 #[.string c] f fun c d=>Ifz (!c) (R (.returned (.iface 65 (.int .i64 6))) d) (a (IntKind.wrap .i64 (e+1)) d∧b (IntKind.wrap .i64 (e+1)) d<b e f)) (R (.returned .nilIface) f))):Calls Tryz.prog 177 #[.pointer (some ⟨a,b,none⟩),.slice c d e] w R:=aa 0x1d2b002d3014141c01538c8200321d0112a1192a16143983d2002d304342c2072d21d Tryz.func177 (by kernel_rfl) h
theorem qV (a b:Nat) (c:ByteArray) (h:Bsz 166 1 #[(0,.string c)] w fun d e f g=>Cvv 177 #[.pointer (some ⟨a,b,none⟩),.slice d e f] g fun d e=>Nez .neq 58 (.tmp 13) d e fun f=>Ifz f (R (.returned (.tuple #[.pointer none,d])) e) (∃d,(Instr.loadAt 149 (.pointer (some ⟨a,b+6,none⟩))).run Tryz.prog e=.ok d e∧∃a b f,(Instr.lookup 149 d (.string c) true).run Tryz.prog e=.ok (.tuple #[a,.bool b]) f∧Ifz (!b) (R (.returned (.tuple #[.pointer none,.iface 65 (.int .i64 5)])) f) (R (.returned (.tuple #[a,.nilIface])) f))):Calls Tryz.prog 149 #[.pointer (some ⟨a,b,none⟩),.string c] w R:=aa 0x3d003d32d20524929a193ec003d30431c0191475dc22d Tryz.func149 (by kernel_rfl) h
theorem qq (a b:Nat) (c:ByteArray) (h:Bsz 166 1 #[(0,.string c)] w fun d e f g=>Cvv 177 #[.pointer (some ⟨a,b,none⟩),.slice d e f] g fun d e=>Nez .neq 58 (.tmp 14) d e fun f=>Ifz f (R (.returned d) e) (∃d,(Instr.loadAt 149 (.pointer (some ⟨a,b+6,none⟩))).run Tryz.prog e=.ok d e∧∃f g h,(Instr.lookup 149 d (.string c) true).run Tryz.prog e=.ok (.tuple #[f,.bool g]) h∧Ifz g (R (.returned (.iface 65 (.int .i64 4))) h) (∃d,(Instr.loadAt 149 (.pointer (some ⟨a,b+6,none⟩))).run Tryz.prog h=.ok d h∧∃e f,(Builtin.len_ #[149] 3 #[d]).run Tryz.prog h=.ok (.int .i64 e) f∧Ifz (decide (e≥(4096:Int))) (R (.returned (.iface 65 (.int .i64 19))) f) (Cvv 178 #[.pointer (some ⟨a,b,none⟩)] f (fun d e=>Nez .neq 58 (.tmp 39) d e fun f=>Ifz f (R (.returned d) e) (Buz 169 #[] e (fun d=>Bxz 169 (.agg d) e fun d e=>∃f,(Instr.loadAt 149 (.pointer (some ⟨a,b+6,none⟩))).run Tryz.prog e=.ok f e∧∃g,(Instr.mapUpdate 149 f (.string c) (.pointer (some ⟨d,0,none⟩))).run Tryz.prog e=.ok () g∧Llz 150 a (b+8) g fun e f h=>Buz 164 #[(0,.pointer (some ⟨d,0,none⟩)),(2,.string c)] g fun c=>Bsz 150 1 #[(0,.agg c)] g fun c d g i=>Apz 150 (.slice e f h) (.slice c d g) i fun c d e f=>Stz 150 a (b+8) (.slice c d e) f fun a=>R (.returned .nilIface) a))))))):Calls Tryz.prog 144 #[.pointer (some ⟨a,b,none⟩),.string c] w R:=aa 0x1d06d757583d7342c06d93ec01783c002d30431c01914ec2002d3010593ec2002d31d0524929a193ec2002d30431c0191475dc21d Tryz.func144 (by kernel_rfl) h
theorem p5 (a b:Nat) (c:ByteArray) (d:Option Addr) (e f:Nat) (h:C2z 149 #[.pointer (some ⟨a,b,none⟩),.string c] w fun c f g=>Nez .neq 58 (.tmp 21) f g fun h=>Ifz h (R (.returned f) g) (∃f:World→Prop,f g.drew∧∃h,(∀c,f c→LdQ 3 a (b+5) (.int .i64 h) c)∧Ciz 228 #[.pointer (some ⟨a,b,none⟩)] g.drew fun g i=>∃j:World→Prop,(∀a,j a→f a)∧j i∧∃(f:Int→Int→World→Prop) (j:Int→Int→World→Nat),f (IntKind.wrap .i64 (h-g)) 0 i∧∀g h i,f g h i→Ifz (decide (h<(e:Int))) (∃a b,d=some ⟨a,b,none⟩∧0≤h∧h<(e:Int)∧Llz 26 a (b+Int.toNat h*1) i fun a b c=>Ifz (decide ((b:Int)>g)) (R (.returned (.iface 65 (.int .i64 3))) i) (f (IntKind.wrap .i64 (g- (b:Int))) (IntKind.wrap .i64 (h+1)) i∧j (IntKind.wrap .i64 (g- (b:Int))) (IntKind.wrap .i64 (h+1)) i<j g h i)) (Cvv 178 #[.pointer (some ⟨a,b,none⟩)] i (fun a b=>Nez .neq 58 (.tmp 51) a b fun f=>Ifz f (R (.returned a) b) (∃(a:Int→World→Prop) (f:Int→World→Nat),a 0 b∧∀b g,a b g→Ifz (decide (b<(e:Int))) (∃h i,d=some ⟨h,i,none⟩∧0≤b∧b<(e:Int)∧Llz 26 h (i+Int.toNat b*1) g fun d e h=>∃i j,c=.pointer (some ⟨i,j,none⟩)∧Llz 26 i j g fun i j k=>Apz 26 (.slice i j k) (.slice d e h) g fun d e h i=>∃j k,c=.pointer (some ⟨j,k,none⟩)∧Stz 26 j k (.slice d e h) i fun c=>a (IntKind.wrap .i64 (b+1)) c∧f (IntKind.wrap .i64 (b+1)) c<f b g) (R (.returned .nilIface) g)))))):Calls Tryz.prog 145 #[.pointer (some ⟨a,b,none⟩),.string c,.slice d e f] w R:=aa 0x1d2b061ea751731ead101738c8200321d0117811e7811e2983d2002d30431c01914ec22b5b002d34d201738c8200321d00214911921e4911b119164983d20076220185403342104252002d30431c20529924dc1d Tryz.func145 (by kernel_rfl) h
theorem uf (a b:Nat) (c:ByteArray) (h:C2z 149 #[.pointer (some ⟨a,b,none⟩),.string c] w fun c d e=>Nez .neq 58 (.tmp 14) d e fun f=>Ifz f (R (.returned d) e) (Cvv 178 #[.pointer (some ⟨a,b,none⟩)] e (fun a b=>Nez .neq 58 (.tmp 21) a b fun d=>Ifz d (R (.returned a) b) (∃a d,c=.pointer (some ⟨a,d,none⟩)∧Llz 26 a d b fun a d e=>∃a e,c=.pointer (some ⟨a,e,none⟩)∧Stz 3 a (e+1) (.int .i64 (d:Int)) b fun a=>R (.returned .nilIface) a)))):Calls Tryz.prog 146 #[.pointer (some ⟨a,b,none⟩),.string c] w R:=aa 0x1d061ea1731eadc002d30431c01914ec2002d30431c20529924dc1d Tryz.func146 (by kernel_rfl) h
theorem oq (a b:Nat) (h:Cvv 177 #[.pointer (some ⟨a,b,none⟩),.slice none 0 0] w fun c d=>Nez .neq 58 (.tmp 7) c d fun e=>Ifz e (R (.returned c) d) (Cvv 178 #[.pointer (some ⟨a,b,none⟩)] d (fun c d=>Nez .neq 58 (.tmp 14) c d fun e=>Ifz e (R (.returned c) d) (∃c,(Instr.loadAt 149 (.pointer (some ⟨a,b+6,none⟩))).run Tryz.prog d=.ok c d∧Cvv 78 #[c] d fun c d=>∃e,(Instr.storeAt 149 (.pointer (some ⟨a,b+7,none⟩)) c).run Tryz.prog d=.ok () e∧Stz 150 a (b+8) (.slice none 0 0) e fun a=>R (.returned .nilIface) a)))):Calls Tryz.prog 84 #[.pointer (some ⟨a,b,none⟩)] w R:=aa 0x1d06ec06d9149342c002d30431c01914ec2002d30431c019141c21d Tryz.func84 (by kernel_rfl) h
theorem qG (a b:Nat) (c d:ByteArray) (h:Bsz 166 2 #[(0,.string c),(1,.string d)] w fun e f g h=>Cvv 177 #[.pointer (some ⟨a,b,none⟩),.slice e f g] h fun e f=>Nez .neq 58 (.tmp 17) e f fun g=>Ifz g (R (.returned e) f) (C2z 149 #[.pointer (some ⟨a,b,none⟩),.string c] f (fun e f g=>Nez .neq 58 (.tmp 26) f g fun e=>Ifz e (R (.returned f) g) (Cvv 178 #[.pointer (some ⟨a,b,none⟩)] g (fun e f=>Nez .neq 58 (.tmp 33) e f fun g=>Ifz g (R (.returned e) f) (Buz 164 #[(1,.string c),(2,.string d)] f (fun c=>JR f c a b R))))))):Calls Tryz.prog 190 #[.pointer (some ⟨a,b,none⟩),.string c,.string d] w R:=aa 0x1d11a1041a41918227274726485374332104252000854843933210325206783dc002d30431c01914ec2002d30431c0529924dc2002d30431c0191475ec21d Tryz.func190 (by kernel_rfl) h
theorem pX (a b:Nat) (c:ByteArray) (h:C2z 149 #[.pointer (some ⟨a,b,none⟩),.string c] w fun d e f=>Nez .neq 58 (.tmp 15) e f fun d=>Ifz d (R (.returned e) f) (Cvv 178 #[.pointer (some ⟨a,b,none⟩)] f (fun d e=>Nez .neq 58 (.tmp 22) d e fun f=>Ifz f (R (.returned d) e) (Buz 164 #[(1,.string c)] e (fun c=>JR e c a b R))))):Calls Tryz.prog 89 #[.pointer (some ⟨a,b,none⟩),.string c] w R:=aa 0x1d11a1041a419182272747264853743321042520008548439332103252067831c002d30431c01914ec2002d30431c0529924dc21d Tryz.func89 (by kernel_rfl) h
theorem u9 (a:Value) (b:Array Value) (h:Bxz 164 (.agg b) w fun b c=>∃d,(Instr.loadAt 162 (.pointer (some ⟨b,0,none⟩))).run Tryz.prog c=.ok d c∧Eqz .neq 162 (.tmp 7) (.const (.pointer none)) d (.pointer none) c fun d=>Ifz d (Lsz 9 b 2 c (fun d=>∃e,(Instr.loadAt 162 (.pointer (some ⟨b,0,none⟩))).run Tryz.prog c=.ok e c∧∃b,(Instr.mapUpdate 149 a (.string d) e).run Tryz.prog c=.ok () b∧R (.returned (.tuple #[])) b)) (Lsz 9 b 1 c (fun d=>∃e f g,(Instr.lookup 149 a (.string d) true).run Tryz.prog c=.ok (.tuple #[e,.bool f]) g∧Ifz (!f) (R (.returned (.tuple #[])) g) (Lsz 9 b 1 g (fun c=>∃d f,(Builtin.delete_ #[149,9] 0 #[a,.string c]).run Tryz.prog g=.ok d f∧Lsz 9 b 2 f fun c=>∃d:World→Prop,Ifz (!(c.toList==(ByteArray.mk #[]).toList)) (Lsz 9 b 2 f (fun b=>∃c,(Instr.mapUpdate 149 a (.string b) e).run Tryz.prog f=.ok () c∧d c)) (d f)∧∀a,d a→R (.returned (.tuple #[])) a))))):Calls Tryz.prog 79 #[a,.agg b] w R:=aa 0x6153d130043d1a01531c09553dc0032d20524929a53dc000693153dc3043931c207c Tryz.func79 (by kernel_rfl) h
theorem s8 (a b:Nat) (c:ByteArray) (h:C2z 149 #[.pointer (some ⟨a,b,none⟩),.string c] w fun a b c=>Nez .neq 58 (.tmp 14) b c fun d=>Ifz d (R (.returned (.tuple #[.slice none 0 0,b])) c) (∃b d,a=.pointer (some ⟨b,d,none⟩)∧Llz 26 b d c fun a b d=>Clz 150 #[.slice a b d] c fun a b c d=>R (.returned (.tuple #[.slice a b c,.nilIface])) d)):Calls Tryz.prog 57 #[.pointer (some ⟨a,b,none⟩),.string c] w R:=aa 0xd714731ea1c003d30431c20529924dc2d Tryz.func57 (by kernel_rfl) h
theorem qd (a b:Nat) (c:ByteArray) (d e:Int) (h:C2z 149 #[.pointer (some ⟨a,b,none⟩),.string c] w fun a b c=>M6 b c R d e a):Calls Tryz.prog 138 #[.pointer (some ⟨a,b,none⟩),.string c,.int .i64 d,.int .i64 e] w R:=aa 0xd714942731ea1c003d3052731ead01a24cc42731ead02b23bc12be14115e13a2d1a22003d30431c20529924dc2d Tryz.func138 (by kernel_rfl) h
theorem tH (a b:Nat) (h:∃c,(Instr.loadAt 149 (.pointer (some ⟨a,b+6,none⟩))).run Tryz.prog w=.ok c w∧Cvv 174 #[c] w fun a b=>Clz 173 #[a] b fun a b c d=>R (.returned (.slice a b c)) d):Calls Tryz.prog 80 #[.pointer (some ⟨a,b,none⟩)] w R:=aa 0x171491493ec072d21d Tryz.func80 (by kernel_rfl) h
theorem sr (a b:Nat) (h:∃c,(Instr.loadAt 149 (.pointer (some ⟨a,b+6,none⟩))).run Tryz.prog w=.ok c w∧∃a b,(Instr.range 149 c).run Tryz.prog w=.ok a b∧∃(c:Int→World→Prop) (d:Int→World→Nat),c 0 b∧∀b e,c b e→∃(f:Bool) (g:List Value) (h:World),(Instr.next a false 0).run Tryz.prog e=.ok (.tuple ⟨.bool f::g⟩) h∧Ifz f (∃f g i j,(Instr.entry a).run Tryz.prog h=.ok (.tuple #[f,.pointer (some ⟨g,i,none⟩)]) j∧Llz 26 g i j fun a f g=>c (IntKind.wrap .i64 (b+(f:Int))) j∧d (IntKind.wrap .i64 (b+(f:Int))) j<d b e) (R (.returned (.int .i64 b)) h)):Calls Tryz.prog 228 #[.pointer (some ⟨a,b,none⟩)] w R:=aa 0x2d0e734210d6929ac8003201aac011311b1d151339809593ec21d072d21d Tryz.func228 (by kernel_rfl) h
theorem rJ (a b:Nat) (h:Liz 3 a b w fun a=>R (.returned (.int .i64 a)) w):Calls Tryz.prog 61 #[.pointer (some ⟨a,b,none⟩)] w R:=aa 0x10342c072d21d Tryz.func61 (by kernel_rfl) h
theorem tI (a b:Nat) (h:Lbz 4 a (b+1) w fun a=>R (.returned (.bool a)) w):Calls Tryz.prog 64 #[.pointer (some ⟨a,b,none⟩)] w R:=aa 0xd4372c1d Tryz.func64 (by kernel_rfl) h
theorem jP (a:Option Addr) (b c:Nat) (d:Value) (h:∃(c:Int→World→Prop) (e:Int→World→Nat),c 0 w∧∀f g,c f g→Ifz (decide (f<(b:Int))) (∃h i,a=some ⟨h,i,none⟩∧0≤f∧f<(b:Int)∧Liz 3 h (i+Int.toNat f*1) g fun a=>∃(b:Nat) (h:List Value),d=.func (.func b) #[] ⟨h⟩∧gN Tryz.prog b=true∧Calls Tryz.prog b (([.int .i64 a]:List Value)++h).toArray g fun a b=>∃d,a=.returned (.bool d)∧Ifz d (R (.returned (.int .i64 f)) b) (c (IntKind.wrap .i64 (f+1)) b∧e (IntKind.wrap .i64 (f+1)) b<e f g)) (R (.returned (.int .i64 (-1))) g)):Calls Tryz.prog 166 #[.slice a b c,d] w R:=aa 0x1d2b002d3041ba038ec2d8200321d0111811b18242983d21d Tryz.func166 (by kernel_rfl) h
theorem fL (a:Value) (h:Eqz .eql 149 (.tmp 3) (.const (.map none)) a (.map none) w fun b=>Ifz b (R (.returned (.map none)) w) (∃b c,(callFunc 172 #[.iface 149 a]).run Tryz.prog w=.ok (.value b) c∧∃a,(Instr.typeAssert b 20 149 false).run Tryz.prog c=.ok a c∧R (.returned a) c)):Calls Tryz.prog 78 #[a] w R:=aa 0x1939dadc001d30431c21d Tryz.func78 (by kernel_rfl) h
end Go.Proofs.YtpmhjnhgpplmnaaGreatDoor
end

section
namespace Go.Proofs.YtpmhjnhgpplmnaaGreatDoor
open Go Sx
set_option maxRecDepth 8000

structure FR where
 g:Nat
 a:Option Addr
 c:Nat
 data:List UInt8
 syn:Nat
def FR.m (f:FR):cg:=⟨f.data,f.syn⟩
def FR.val (f:FR):Value:=.slice f.a f.data.length f.c
def FR.blk (f:FR):Res:=.arr f.g 169 [f.val,.int .i64 (f.syn:Int)]
def FR.row (f:FR):Res:=.row 5 1 f.val f.data.length (bv f.data)
def DR (FL:List FR) (N:List Res):List Res:=FL.map FR.blk++(FL.map FR.row++N)

theorem tL {FL:List FR} {i:Nat} {f:FR} (hi:FL[i]?=some f) (R N:List Res):(R++DR FL N).Perm (f.blk::f.row::(R++DR (FL.eraseIdx i) N)):=by
 obtain ⟨h1,_,h3⟩:=tA hi
 rw [h3]
 conv=>lhs;rw [h1]
 unfold DR
 simp only [List.map_append,List.map_cons]
 have e1:R++((FL.take i).map FR.blk++f.blk::(FL.drop (i+1)).map FR.blk++((FL.take i).map FR.row++f.row::(FL.drop (i+1)).map FR.row++N))=(R++(FL.take i).map FR.blk)++f.blk::(((FL.drop (i+1)).map FR.blk++(FL.take i).map FR.row)++f.row::((FL.drop (i+1)).map FR.row++N)):=by simp [List.append_assoc]
 rw [e1]
 refine List.perm_middle.trans (List.Perm.cons _ ?_)
 have e2:R++(FL.take i).map FR.blk++(((FL.drop (i+1)).map FR.blk++(FL.take i).map FR.row)++f.row::((FL.drop (i+1)).map FR.row++N))=(R++(FL.take i).map FR.blk++((FL.drop (i+1)).map FR.blk++(FL.take i).map FR.row))++f.row::((FL.drop (i+1)).map FR.row++N):=by simp [List.append_assoc]
 rw [e2]
 refine List.perm_middle.trans (List.Perm.cons _ (List.Perm.of_eq ?_))
 simp [List.append_assoc]

theorem eraseIdx_set {α:Type} (l:List α) (i:Nat) (x:α):(l.set i x).eraseIdx i=l.eraseIdx i:=by
 rw [List.eraseIdx_eq_take_drop_succ,List.eraseIdx_eq_take_drop_succ,List.take_set_of_le (Nat.le_refl i),List.drop_set_of_lt (by omega)]

def nM (gs:List Nat) (i:Nat):Value:=.pointer (some ⟨gs.getD i 0,0,none⟩)
def chC (gs:List Nat) (c:ChM):List Value:=[match c.made with | some i=>nM gs i | none=>.pointer none,aJ c.fr,aJ c.to]
theorem jT (gs:List Nat) (c:ChM):(chC gs c).length=3:=rfl
theorem sx (gs:List Nat) (c:ChM):∀v∈chC gs c,v.oneCell'=true:=by
 intro v hv
 simp only [chC,List.mem_cons,List.not_mem_nil,or_false] at hv
 rcases hv with rfl | rfl | rfl
 · cases c.made<;>rfl
 · rfl
 · rfl
def niv (l:List Nat):List Value:=l.map fun x:Nat=>Value.int .i64 (x:Int)

structure Fy (fl:List Nat) (fa:Option Addr) (fn fc:Nat) (F:Res):Prop where
 len:fl.length=fn
 le:fn≤fc
 at_:fn=0∨∃gf k L,fa=some ⟨gf,k,none⟩∧F=.arr gf 3 L∧(L.drop k).take fn=niv fl
 bd:∀x∈fl,x≤9223372036854775807

structure DP where
 av:Int
 fa:Option Addr
 fn:Nat
 fc:Nat
 gn:Nat
 gs:Nat
 ca:Option Addr
 cc:Nat
 FL:List FR
 F:Res
 esn:Array MapEntry
 ckn:Nat
 Mn:Dir
 ess:Array MapEntry
 cks:Nat
 Ms:Dir
def DP.ps (p:DP):List Nat:=p.FL.map FR.g
abbrev kyE (e:Ent):Value:=aJ e.name
abbrev vlE (gs:List Nat) (e:Ent):Value:=nM gs e.file
structure DOk (m:af) (p:DP):Prop where
 wf:WFD m
 files:p.FL.map FR.m=m.files
 arm:∀k,m.arm=some k→p.av=(k:Int)∧k≤9223372036854775807
 bW:Fy m.bW p.fa p.fn p.fc p.F
 oM:bD kyE (vlE p.ps) p.esn p.ckn p.Mn
 isn:dB Ent.name p.Mn m.now
 maps:bD kyE (vlE p.ps) p.ess p.cks p.Ms
 iss:dB Ent.name p.Ms m.syn
def iR (m:af) (p:DP):List Value:=[.int .i64 (m.steps:Int),.bool m.down,.bool m.arm.isSome,.int .i64 p.av,.slice p.fa p.fn p.fc,.int .i64 m.size,.map (some p.gn),.map (some p.gs),.slice p.ca m.chs.length p.cc]
def dL (gd:Nat) (m:af) (p:DP):List Res:=[.arr gd 152 (iR m p),.blk p.gn (.map p.esn p.ckn),.blk p.gs (.map p.ess p.cks),.row 164 3 (.slice p.ca m.chs.length p.cc) m.chs.length (m.chs.flatMap (chC p.ps)),p.F]
def ah (w0:World) (X:List Nat) (w:World) (gd:Nat) (ps:List Nat) (m:af) (N:List Res):Prop:=∃p,p.ps=ps∧DOk m p∧St w0 X w (dL gd m p++DR p.FL N)

section
variable {w0 w w':World} {X:List Nat} {N N':List Res} {gd:Nat} {ps:List Nat} {m:af}

theorem ah.same (h:ah w0 X w gd ps m N) (hc:Chg [] w w'):ah w0 X w' gd ps m N:=by obtain ⟨p,hps,hp,hS⟩:=h;exact ⟨p,hps,hp,hS.same hc⟩
theorem ah.chg (h:ah w0 X w gd ps m N):Chg X w0 w:=by obtain ⟨p,_,hp,hS⟩:=h;exact hS.chg
theorem ah.wf (h:ah w0 X w gd ps m N):WFD m:=by obtain ⟨p,_,hp,hS⟩:=h;exact hp.wf
theorem L1 {FL:List FR} (h:N.Perm N'):(DR FL N).Perm (DR FL N'):=List.Perm.append_left _ (List.Perm.append_left _ h)
theorem ah.yw (h:ah w0 X w gd ps m N) (hn:N.Perm N'):ah w0 X w gd ps m N':=by obtain ⟨p,hps,hp,hS⟩:=h;exact ⟨p,hps,hp,hS.perm (List.Perm.append_left _ (L1 hn))⟩
theorem ah.wC (h:ah w0 X w gd ps m N) (hn:N'.Sublist N):ah w0 X w gd ps m N':=by
 obtain ⟨p,hps,hp,hS⟩:=h
 exact ⟨p,hps,hp,hS.sub (List.Sublist.append_left (List.Sublist.append_left (List.Sublist.append_left hn _) _) _)⟩
theorem ah.rest (h:ah w0 X w gd ps m N):St w0 X w N:=by
 obtain ⟨p,hps,hp,hS⟩:=h
 exact hS.sub (((List.sublist_append_right _ _).trans (List.sublist_append_right _ _)).trans (List.sublist_append_right _ _))

theorem Hz:gF Tryz.prog 166 9 1 16 (.string ByteArray.empty):=⟨by kernel_rfl,⟨Tryz.t9,by kernel_rfl,by kernel_rfl,by kernel_rfl,by kernel_rfl⟩,rfl,by decide⟩
theorem DD (w:World):(isAgg 9).run Tryz.prog w=.ok false w:=Tryz.isAgg9 w
theorem Pq (w:World):(sizeOf 9).run Tryz.prog w=.ok 1 w:=Tryz.sizeOf9 w
theorem jQ (w:World):(isAgg 3).run Tryz.prog w=.ok false w:=Tryz.isAgg3 w
theorem L5 (w:World):(sizeOf 3).run Tryz.prog w=.ok 1 w:=Tryz.sizeOf3 w
theorem JS (w:World):(isAgg 4).run Tryz.prog w=.ok false w:=Tryz.isAgg4 w
theorem Oq (w:World):(sizeOf 4).run Tryz.prog w=.ok 1 w:=Tryz.sizeOf4 w
theorem Bh (w:World):(isAgg 149).run Tryz.prog w=.ok false w:=Tryz.isAgg149 w
theorem Pw (w:World):(sizeOf 149).run Tryz.prog w=.ok 1 w:=Tryz.sizeOf149 w
theorem Gd (w:World):(isAgg 29).run Tryz.prog w=.ok false w:=Tryz.isAgg29 w
theorem OZ (w:World):(sizeOf 29).run Tryz.prog w=.ok 1 w:=Tryz.sizeOf29 w
theorem Na (w:World):(isAgg 150).run Tryz.prog w=.ok false w:=Tryz.isAgg150 w
theorem Lb (w:World):(sizeOf 150).run Tryz.prog w=.ok 1 w:=Tryz.sizeOf150 w
theorem bsS (w:World):(sizeOf 26).run Tryz.prog w=.ok 1 w:=Tryz.sizeOf26 w
theorem zq:Tryz.prog.underlying 149=some (.map 9 162):=Tryz.underlying149
theorem IX (M:Dir):HI Tryz.prog 9 aJ (fun _=>True) kyE Ent.name M:=⟨Ls Tryz.underlying9,fun _=>rfl,fun _ _=>trivial⟩
theorem pfZ (w:World):(zeroValue 162).run Tryz.prog w=.ok (.pointer none) w:=Tryz.zeroValue162 w

theorem N0 {T:TypeId} (hT:Tryz.prog.underlying T=some .string) {l:Nm} {i:Nat} (hi:i<l.length) (w:World):(Instr.index T (.string ⟨l.toArray⟩) (.int .i64 (i:Int))).run Tryz.prog w=.ok (.int .u8 ((l.getD i 0).toNat:Int)) w:=by
 have h1:(⟨l.toArray⟩:ByteArray)[i]?=some (l.getD i 0):=by
   have h2:i<(⟨l.toArray⟩:ByteArray).size:=by show i<l.toArray.size;simpa using hi
   rw [getElem?_pos _ i h2]
   show some (l.toArray[i]'(by simpa using hi))=_
   simp [List.getD,hi]
 have h0:(0:Int)≤(i:Int):=by omega
 simp only [Instr.index,Sem.run_bind,asIntOf,Sem.run_pure,run_underlying hT,Result.andThen_ok,h0,if_true,Int.toNat_natCast,h1]

theorem Lf (l:Nm):((⟨l.toArray⟩:ByteArray).size:Int)=(l.length:Int):=by show ((l.toArray.size:Nat):Int)=_;simp
theorem empty_eq (l:Nm):((⟨l.toArray⟩:ByteArray).toList==(ByteArray.mk #[]).toList)=decide (l.length=0):=by
 rw [ByteArray.toList_eq,ByteArray.toList_eq]
 cases l<;>rfl

theorem zu (l:Nm) (w:World):Calls Tryz.prog 256 #[aJ l] w fun e w'=>e=.returned (.bool (cN l))∧w'=w:=by
 apply uC
 rw [empty_eq,Lf]
 refine ⟨fun h=>?_,fun h=>?_⟩
 · have:cN l=false:=by
     unfold cN
     simp only [Bool.or_eq_true,decide_eq_true_eq] at h
     have:¬(0<l.length∧l.length≤64):=by omega
     by_cases h1:0<l.length<;>by_cases h2:l.length≤64<;>simp [h1,h2]<;>omega
   rw [this]
   exact ⟨rfl,rfl⟩
 · have hl:0<l.length∧l.length≤64:=by
     simp only [Bool.or_eq_false_iff,decide_eq_false_iff_not] at h
     omega
   refine ⟨fun x w'=>∃i:Nat,x=(i:Int)∧i≤l.length∧(l.take i).all qH=true∧w'=w,fun x _=>l.length-x.toNat,⟨0,rfl,by omega,by simp,rfl⟩,?_⟩
   rintro x w1 ⟨i,rfl,hi,hall,rfl⟩
   refine ⟨fun h=>?_,fun h=>?_⟩
   · have hi':i<l.length:=by simp at h;omega
     have hx:=N0 (T:=9) Tryz.underlying9 hi' w1
     have hb:l[i]?=some (l.getD i 0):=by simp [List.getD,hi']
     obtain ⟨b,hbd⟩:∃b,l.getD i 0=b:=⟨_,rfl⟩
     rw [hbd] at hx hb
     refine ⟨fun y w'=>y= !qH b∧w'=w1,⟨_,hx,fun h1=>⟨?_,rfl⟩,fun h1=>⟨_,hx,fun h2=>⟨?_,rfl⟩,fun h2=>⟨_,hx,?_,rfl⟩⟩⟩,?_⟩
     · simp only [decide_eq_true_eq] at h1
       have:¬33≤b.toNat:=by omega
       simp [qH,this]
     · simp only [decide_eq_true_eq] at h2
       have:¬b.toNat≤126:=by omega
       simp [qH,this]
     · simp only [decide_eq_false_iff_not] at h1 h2
       have e1:33≤b.toNat:=by omega
       have e2:b.toNat≤126:=by omega
       by_cases h3:b.toNat=47
       · simp [qH,h3]
       · have:¬((b.toNat:Int)=47):=by omega
         simp [qH,e1,e2,h3,this]
     · rintro y w2 ⟨rfl,rfl⟩
       refine ⟨fun hbad=>?_,fun hgd=>⟨⟨i+1,aq hi' (by omega),by omega,?_,rfl⟩,aB hi' (by omega)⟩⟩
       · have:cN l=false:=by
           have h0:l.all qH=false:=by
             rw [List.all_eq_false]
             exact ⟨b,List.mem_of_getElem? hb,by simpa using hbad⟩
           simp [cN,h0]
         rw [this]
         exact ⟨rfl,rfl⟩
       · rw [List.take_add_one,hb,List.all_append,hall]
         simpa using hgd
   · have hi':i=l.length:=by simp at h;omega
     rw [hi',List.take_length] at hall
     have:cN l=true:=by simp [cN,hl.1,hl.2,hall]
     rw [this]
     exact ⟨rfl,rfl⟩

theorem ah.cell {p:DP} (hS:St w0 X w (dL gd m p++DR p.FL N)) {i:Nat} {v:Value} {T:TypeId} (hT:(isAgg T).run Tryz.prog w=.ok false w) (hv:(iR m p)[i]?=some v):(Instr.loadAt T (.pointer (some ⟨gd,i,none⟩))).run Tryz.prog w=.ok v w:=
 hS.ldL (i:=0) (o:=i) rfl hT rfl hv

theorem mQ (a:Option Addr) (n c:Nat) (ns:List Nm) (h:ah w0 X w gd ps m N) (hr:Rd w a n c 1 (ns.map aJ)) (hb:n≤1000000):
   Calls Tryz.prog 177 #[.pointer (some ⟨gd,0,none⟩),.slice a n c] w fun e w'=>e=.returned (bk (fP m ns))∧w'=w:=by
 have hln:ns.length=n:=by have:=hr.len;simpa using this
 obtain ⟨p,hps,hp,hS⟩:=h
 apply rz
 refine ⟨_,ah.cell hS (i:=1) (JS _) rfl,fun hd=>?_,fun hd=>?_⟩
 · rw [fP,hd]
   exact ⟨rfl,rfl⟩
 · refine ⟨fun x w'=>∃i:Nat,x=(i:Int)∧i≤n∧(ns.take i).all cN=true∧w'=w,fun x _=>n-x.toNat,⟨0,rfl,by omega,by simp,rfl⟩,?_⟩
   rintro x w1 ⟨i,rfl,hi,hall,rfl⟩
   refine ⟨fun h=>?_,fun h=>?_⟩
   · have hi':i<n:=by simp at h;omega
     have hx:(ns.map aJ)[i]?=some (aJ (ns.getD i [])):=by simp [List.getD,show i<ns.length by omega]
     have hx2:ns[i]?=some (ns.getD i []):=by simp [List.getD,show i<ns.length by omega]
     obtain ⟨nm,hnm⟩:∃nm,ns.getD i []=nm:=⟨_,rfl⟩
     rw [hnm] at hx hx2
     obtain ⟨b,o,ha,hcell⟩:=hr.cells.at_ hx
     refine ⟨b,o,ha,by omega,by omega,_,by rw [Int.toNat_natCast,Nat.mul_one];exact ld1 (DD _) hcell,(zu nm w1).mono ?_⟩
     rintro e w2 ⟨rfl,rfl⟩
     refine ⟨_,rfl,fun hbad=>?_,fun hgd=>⟨⟨i+1,aq hi' (by omega),by omega,?_,rfl⟩,aB hi' (by omega)⟩⟩
     · have:ns.all cN=false:=by
         rw [List.all_eq_false]
         exact ⟨nm,List.mem_of_getElem? hx2,by simpa using hbad⟩
       rw [fP,hd,this]
       exact ⟨rfl,rfl⟩
     · rw [List.take_add_one,hx2,List.all_append,hall]
       simpa using hgd
   · have hi':i=n:=by simp at h;omega
     rw [hi',List.take_of_length_le (by omega)] at hall
     rw [fP,hd,hall]
     exact ⟨rfl,rfl⟩

theorem Ak {p:DP} (hp:DOk m p) (hg:w.heap[p.gn]?=some (.map p.esn p.ckn)) (n:Nm):(Instr.lookup 149 (.map (some p.gn)) (aJ n) true).run Tryz.prog w=.ok (.tuple #[((findD m.now n).map (vlE p.ps)).getD (.pointer none),.bool (findD m.now n).isSome]) w:=by
 have hl:=hp.oM.BF (P:=Tryz.prog) (IX p.Mn) zq hg (id:=n) trivial pfZ
 have hf:=hp.isn.find n
 rw [hl]
 cases hq:dQ Ent.name p.Mn n with
 | none=>rw [hq] at hf;rw [show findD m.now n=none from hf.symm];rfl
 | some q=>rw [hq] at hf;rw [show findD m.now n=some q.2 from hf.symm];rfl

theorem iV (n:Nm) (h:ah w0 X w gd ps m N):
   Calls Tryz.prog 149 #[.pointer (some ⟨gd,0,none⟩),aJ n] w fun e w'=>e=.returned (.tuple #[if bX m n=none then nM ps (cI m n) else .pointer none,bk (bX m n)])∧Chg [] w w':=by
 obtain ⟨mI,hI⟩:=eI
 apply qV
 obtain ⟨g,w1,r1,h1⟩:=(St.start w).lit Hz [aJ n] (by simp [Value.oneCell',aJ]) (by simp)
 have h1':=h1.chg
 refine ⟨_,_,_,w1,r1,(mQ _ _ _ [n] (h.same h1') (h1.rd (i:=0) rfl) (by simp)).mono ?_⟩
 rintro e w2 ⟨rfl,rfl⟩
 obtain ⟨p,hps,hp,hS⟩:=h
 have hrd:fP m [n]=if m.down then some 1 else if cN n then none else some 6:=by simp [fP]
 refine ⟨_,rfl,_,au hI _ _ _,fun hne=>?_,fun hok=>?_⟩
 · have hfr:bX m n=fP m [n]:=by
     rw [hrd] at hne ⊢
     unfold bX
     cases hd:m.down<;>cases hg:cN n<;>simp [hd,hg] at hne ⊢
   have hn0:¬bX m n=none:=fun e=>by rw [hfr] at e;rw [e] at hne;simp at hne
   rw [if_neg hn0,hfr]
   exact ⟨rfl,h1'⟩
 · have hdn:m.down=false∧cN n=true:=by
     rw [hrd] at hok
     cases hd:m.down<;>cases hg:cN n<;>simp [hd,hg] at hok ⊢
   have hS1:=hS.same h1'
   have hlk:=Ak hp (w:=w2) (hS1.holds 1 _ rfl) n
   refine ⟨_,ah.cell hS1 (i:=6) (Bh _) rfl,_,_,w2,hlk,fun hno=>?_,fun hyes=>?_⟩
   · have hf:findD m.now n=none:=by
       cases hq:findD m.now n with
       | none=>rfl
       | some e=>rw [hq] at hno;simp at hno
     have:bX m n=some 5:=by simp [bX,hdn.1,hdn.2,hf]
     rw [this]
     exact ⟨rfl,h1'⟩
   · obtain ⟨e,hf⟩:∃e,findD m.now n=some e:=by
       cases hq:findD m.now n with
       | none=>rw [hq] at hyes;simp at hyes
       | some e=>exact ⟨e,rfl⟩
     have hfe:bX m n=none:=by simp [bX,hdn.1,hdn.2,hf]
     have hfi:cI m n=e.file:=by simp [cI,hf]
     rw [hfe,hf,hfi,←hps]
     exact ⟨rfl,h1'⟩

theorem DOk.file {p:DP} (hp:DOk m p) {i:Nat} (hi:i<m.files.length):∃f,p.FL[i]?=some f∧p.ps.getD i 0=f.g∧fileAt m.files i=⟨f.data,f.syn⟩:=by
 have hl:p.FL.length=m.files.length:=by have:=congrArg List.length hp.files;simpa using this
 have hf:p.FL[i]?=some p.FL[i]:=List.getElem?_eq_getElem (by omega)
 refine ⟨p.FL[i],hf,?_,?_⟩
 · simp [DP.ps,List.getD,show i<p.FL.length by omega]
 · rw [←hp.files]
   simp [fileAt,List.getD,show i<p.FL.length by omega,FR.m]

theorem St.x8 {R:List Res} {FL:List FR} {i:Nat} {f:FR} (h:St w0 X w (R++DR FL N)) (hf:FL[i]?=some f):
   (Instr.loadAt 26 (.pointer (some ⟨f.g,0,none⟩))).run Tryz.prog w=.ok (.slice f.a f.data.length f.c) w∧(Instr.loadAt 3 (.pointer (some ⟨f.g,1,none⟩))).run Tryz.prog w=.ok (.int .i64 (f.syn:Int)) w∧RdB w f.a f.data.length f.c f.data:=by
 have h1:=h.perm (tL hf R N)
 exact ⟨h1.ldL (i:=0) (o:=0) rfl (bsA _) rfl rfl,h1.ldL (i:=0) (o:=1) rfl (jQ _) rfl rfl,h1.rd (i:=1) rfl⟩

theorem pK (hw:WFD m) {n:Nm} (h:bX m n=none):cI m n<m.files.length∧∃e∈m.now,e.name=n∧e.file=cI m n∧findD m.now n=some e:=by
 have hf:∃e,findD m.now n=some e:=by
   unfold bX at h
   split at h
   · cases h
   · split at h
     · cases h
     · split at h
       · cases h
       · rename_i hq
         cases hz:findD m.now n with
         | none=>rw [hz] at hq;simp at hq
         | some e=>exact ⟨e,rfl⟩
 obtain ⟨e,hf⟩:=hf
 obtain ⟨h1,h2⟩:=eE hf
 have hfi:cI m n=e.file:=by simp [cI,hf]
 rw [hfi]
 exact ⟨(hw.dZ.ent e h1).1,e,h1,h2,rfl,hf⟩

theorem St.y2 {M:List Res} (h:St w0 X w M) {i g:Nat} {o o':Obj} (hi:M[i]?=some (.blk g o)):St w0 X (w.putObj g o') (M.set i (.blk g o')):=by
 have hg:w.heap[g]?=some o:=h.holds i _ hi
 have hlt:=(Array.getElem?_eq_some_iff.1 hg).1
 refine h.upd hi ⟨rfl,rfl,rfl,by simp,fun k hk hx=>?_⟩ (World.putObj_heap_same hlt) (by simp [Res.fp])
 exact World.putObj_heap_other fun e=>hx (by simp [Res.fp,e])

end

section
variable {w0 w w':World} {X:List Nat} {N N' T T':List Res} {gd:Nat} {ps:List Nat} {m:af}

theorem ah.dh (h:ah w0 X w gd ps m N) (h':St w [] w' T):ah w0 X w' gd ps m (N++T):=by
 obtain ⟨p,hps,hp,hS⟩:=h
 refine ⟨p,hps,hp,?_⟩
 have h1:St w0 X w' ((dL gd m p++DR p.FL N)++T):=Sx.St.cC (N:=[]) (by rw [List.append_nil];exact hS) h'
 have e:(dL gd m p++DR p.FL N)++T=dL gd m p++DR p.FL (N++T):=by simp [DR,List.append_assoc]
 rw [←e];exact h1

theorem ah.qP (h:ah w0 X w gd ps m (N++T)) (h':St w (iF T) w' T'):ah w0 X w' gd ps m (N++T'):=by
 obtain ⟨p,hps,hp,hS⟩:=h
 have e:∀U,dL gd m p++DR p.FL (N++U)=(dL gd m p++DR p.FL N)++U:=fun U=>by simp [DR,List.append_assoc]
 rw [e] at hS
 refine ⟨p,hps,hp,?_⟩
 rw [e]
 exact Sx.St.cC hS h'

theorem ah.under (k:St w0 X w N) (h:ah w [] w' gd ps m []):ah w0 X w' gd ps m N:=by
 obtain ⟨p,hps,hp,hS⟩:=h
 have h1:=Sx.St.cC (M:=N) (N:=[]) (by rw [List.append_nil];exact k) hS
 refine ⟨p,hps,hp,h1.perm ?_⟩
 have e:dL gd m p++DR p.FL N=(dL gd m p++DR p.FL [])++N:=by simp [DR,List.append_assoc]
 rw [e]
 exact List.perm_append_comm
end

theorem dkT:Tryz.prog.underlying 51=some (.pointer 152):=Tryz.underlying51

end Go.Proofs.YtpmhjnhgpplmnaaGreatDoor
end

section
namespace Go.Proofs.YtpmhjnhgpplmnaaGreatDoor.Sx
open Go
set_option maxRecDepth 8000

section
variable {P:Program} {α:Type} {key val:α→Value} {es:Array MapEntry} {clock:Nat} {M:List α}

def BZ (es:Array MapEntry) (M:List α):List (MapEntry×α):=es.toList.zip M
def jN (es:Array MapEntry) (M:List α) (seen:Array Nat):List (MapEntry×α):=(BZ es M).filter fun p=> !seen.contains p.1.born
theorem Dn (hE:bD key val es clock M):(BZ es M).map (·.1)=es.toList:=by
 rw [BZ,List.map_fst_zip]
 have:=hE.len;simp;omega
theorem CZ (hE:bD key val es clock M):(BZ es M).map (·.2)=M:=by
 rw [BZ,List.map_snd_zip]
 have:=hE.len;simp;omega
theorem KE (hE:bD key val es clock M) {p:MapEntry×α} (hp:p∈BZ es M):p.1∈es.toList∧p.1.key=key p.2∧p.1.val=val p.2:=by
 obtain ⟨i,hi⟩:=List.getElem?_of_mem hp
 rw [BZ,List.getElem?_zip_eq_some] at hi
 obtain ⟨r,h1,h2,h3⟩:=hE.at_ hi.1
 rw [hi.2,Option.some.injEq] at h1
 subst h1
 exact ⟨List.mem_of_getElem? hi.1,h2,h3⟩
theorem Ao (hE:bD key val es clock M) (seen:Array Nat):(jN es M seen).map (·.1)=(leftOf es seen).toList:=by
 rw [leftOf,Array.toList_filter,←Dn hE,List.filter_map,jN]
 rfl
theorem qU (hE:bD key val es clock M) (seen:Array Nat):(leftOf es seen).size=(jN es M seen).length:=by
 rw [←Array.length_toList,←Ao hE,List.length_map]
theorem Hv (hE:bD key val es clock M):(jN es M #[]).map (·.2)=M:=by
 have:jN es M #[]=BZ es M:=List.filter_eq_self.2 fun p _=>by simp
 rw [this,CZ hE]

theorem FN {β:Type} (bn:β→Nat) {L:List β} (hn:(L.map bn).Nodup) (seen:Array Nat) {p:β} (hp:p∈L.filter fun x=> !seen.contains (bn x)):
   (L.filter fun x=> !seen.contains (bn x)).Perm (p::L.filter fun x=> !(seen.push (bn p)).contains (bn x)):=by
 have key:∀(L:List β),(L.map bn).Nodup→p∈L→L.Perm (p::L.filter fun x=>bn x≠bn p):=by
   intro L
   induction L with
   | nil=>intro _ h;simp at h
   | cons x L ih=>
     intro hn hm
     rw [List.map_cons,List.nodup_cons] at hn
     rcases List.mem_cons.1 hm with rfl | hm
     · have hL:L.filter (fun x=>decide (bn x≠bn p))=L:=List.filter_eq_self.2 fun y hy=>by
         simp only [ne_eq,decide_eq_true_eq]
         exact fun h=>hn.1 (List.mem_map.2 ⟨y,hy,h⟩)
       rw [List.filter_cons,if_neg (by simp),hL]
     · have hx:bn x≠bn p:=fun h=>hn.1 (List.mem_map.2 ⟨p,hm,h.symm⟩)
       rw [List.filter_cons,if_pos (by simpa using hx)]
       exact ((ih hn.2 hm).cons x).trans (List.Perm.swap _ _ _)
 have hsub:((L.filter fun x=> !seen.contains (bn x)).map bn).Nodup:=hn.sublist ((List.filter_sublist).map _)
 refine (key _ hsub hp).trans (List.Perm.of_eq ?_)
 congr 1
 rw [List.filter_filter]
 apply List.filter_congr
 intro x _
 simp only [Array.contains_push,ne_eq]
 by_cases h2:bn x=bn p<;>cases h1:seen.contains (bn x)<;>simp [h1,h2]

def muR (gm gr:Nat) (w:World):Nat:=match w.heap[gm]?,w.heap[gr]? with
 | some (.map es _),some (.mapIter _ _ seen _)=>(leftOf es seen).size
 | _,_=>0
theorem Jd {gm gr:Nat} {w:World} {seen:Array Nat} {c0 c1:Nat} {o:Option Nat} (hg:w.heap[gm]?=some (.map es clock)) (hr:w.heap[gr]?=some (.mapIter o c0 seen c1)):muR gm gr w=(leftOf es seen).size:=by simp only [muR,hg,hr]

theorem E2 {w:World} {gr gm:Nat} {seen:Array Nat} (hE:bD key val es clock M) (hr:w.heap[gr]?=some (.mapIter (some gm) clock seen clock)) (hg:w.heap[gm]?=some (.map es clock)):
   ((jN es M seen)=[]∧(Instr.next (.pointer (some ⟨gr,0,none⟩)) false 0).run P w=.ok (.tuple #[.bool false]) w)∨
   ∃(e:MapEntry) (r:α) (w1:World),(w1=w∨w1=w.drew)∧(Instr.next (.pointer (some ⟨gr,0,none⟩)) false 0).run P w=.ok (.tuple #[.bool true,key r,val r]) (w1.putObj gr (.mapIter (some gm) clock (seen.push e.born) clock))∧r∈M∧
     (∀w2:World,w2.heap[gr]?=some (.mapIter (some gm) clock (seen.push e.born) clock)→w2.heap[gm]?=some (.map es clock)→(Instr.entry (.pointer (some ⟨gr,0,none⟩))).run P w2=.ok (.tuple #[key r,val r]) w2)∧
     ((jN es M seen).map (·.2)).Perm (r::(jN es M (seen.push e.born)).map (·.2))∧(jN es M (seen.push e.born)).length<(jN es M seen).length:=by
 rcases run_next_at (P:=P) w 0 gr gm clock clock seen es clock hr hg hE.old (Nat.le_refl _) with ⟨hz,hrun⟩ | ⟨e,he,w3,hw3,hrun⟩
 · left
   refine ⟨?_,hrun⟩
   rw [qU hE] at hz
   exact List.eq_nil_of_length_eq_zero hz
 · right
   have hml:∃r,(e,r)∈jN es M seen:=by
     rw [←Ao hE,List.mem_map] at he
     obtain ⟨p,hp,rfl⟩:=he
     exact ⟨p.2,hp⟩
   obtain ⟨r,hr'⟩:=hml
   have hmem:=(List.mem_filter.1 hr').1
   obtain ⟨he1,hk,hv⟩:=KE hE hmem
   have hborn:((BZ es M).map fun p=>p.1.born).Nodup:=by
     have:=hE.born
     rw [←Dn hE,List.map_map] at this
     exact this
   have hstep:=FN (fun p:MapEntry×α=>p.1.born) hborn seen hr'
   have hrM:r∈M:=by
     have:=(List.mem_map (f:=fun p:MapEntry×α=>p.2)).2 ⟨_,hmem,rfl⟩
     rw [CZ hE] at this
     exact this
   refine ⟨e,r,w3,hw3,?_,hrM,fun w2 h1 h2=>?_,hstep.map fun p:MapEntry×α=>p.2,?_⟩
   · simp only at hk hv
     rw [hk,hv] at hrun
     exact hrun
   · have:=run_entry_at (P:=P) w2 gr gm clock seen es clock e h1 h2 he1 hE.born
     simp only at hk hv
     rw [hk,hv] at this
     exact this
   · have:=hstep.length_eq
     simp only [List.length_cons] at this
     show (jN es M (seen.push e.born)).length<(jN es M seen).length
     unfold jN
     omega
end

end Go.Proofs.YtpmhjnhgpplmnaaGreatDoor.Sx
end

section
namespace Go.Proofs.YtpmhjnhgpplmnaaGreatDoor
open Go Sx
set_option maxRecDepth 8000

section
variable {w0 w w':World} {X:List Nat} {N N':List Res} {gd:Nat} {ps:List Nat} {m:af}

theorem DOk.upd {p:DP} (hp:DOk m p) (s:Nat) (d:Bool) (a:Option Nat) (f:List Nat) {av:Int} {fa:Option Addr} {fn fc:Nat} {F:Res} (ha:∀k,a=some k→av=(k:Int)∧k≤9223372036854775807) (hf:Fy f fa fn fc F):
   DOk { m with steps:=s,down:=d,arm:=a,bW:=f } { p with av:=av,fa:=fa,fn:=fn,fc:=fc,F:=F } :=
 ⟨hp.wf.upd s d a f,hp.files,ha,hf,hp.oM,hp.isn,hp.maps,hp.iss⟩

theorem DJ (x:Nat) (l:List Nat):niv (x::l)=.int .i64 (x:Int)::niv l:=rfl

set_option maxHeartbeats 1000000 in
theorem j8 (h:ah w0 X w gd ps m N) (hb:m.steps<4611686018427387904):
   Calls Tryz.prog 178 #[.pointer (some ⟨gd,0,none⟩)] w fun e w'=>e=.returned (bk (bp m).2)∧ah w0 X w' gd ps (bp m).1 N:=by
 obtain ⟨p,hps,hp,hS⟩:=h
 apply rN
 refine ⟨fun x w'=>x=decide (m.arm=some 0)∧w'=w,⟨_,ah.cell hS (i:=2) (JS _) rfl,fun ha=>⟨_,ah.cell hS (i:=3) (jQ _) rfl,?_,rfl⟩,fun ha=>⟨?_,rfl⟩⟩,?_⟩
 · obtain ⟨k,hk⟩:=Option.isSome_iff_exists.1 ha
   rw [(hp.arm k hk).1,hk]
   by_cases h0:k=0
   · subst h0;rfl
   · have:¬((k:Int)=0):=by omega
     simp [h0,this]
 · have:m.arm=none:=by simpa using ha
   rw [this];rfl
 rintro x w1 ⟨rfl,rfl⟩
 refine ⟨fun h0=>?_,fun h0=>?_⟩
 · have h0:m.arm=some 0:=by simpa using h0
   obtain ⟨w2,r2,h2⟩:=hS.stL (i:=0) (o:=1) (off:=1) (T:=4) (v:=.bool true) rfl (Oq _) rfl (by simp [iR]) rfl
   refine ⟨w2,r2,?_,?_⟩
   · rw [bp,if_pos h0];rfl
   · rw [bp,if_pos h0]
     exact ⟨p,hps,hp.upd m.steps true m.arm m.bW hp.arm hp.bW,h2⟩
 have h0:¬m.arm=some 0:=by simpa using h0
 have w1s:IntKind.wrap .i64 ((m.steps:Int)+1)=((m.steps+1:Nat):Int):=by rw [wrap_i64 (by omega) (by omega)];omega
 obtain ⟨w3,r3,h3⟩:=hS.stL (i:=0) (o:=0) (off:=0) (T:=3) (v:=.int .i64 ((m.steps+1:Nat):Int)) rfl (L5 _) rfl (by simp [iR]) rfl
 obtain ⟨av',hav⟩:∃av',IntKind.wrap .i64 (p.av-1)=av':=⟨_,rfl⟩
 have ha':∀k:Nat,m.arm.map (fun x:Nat=>x-1)=some k→av'=(k:Int)∧k≤9223372036854775807:=by
   intro k hk
   obtain ⟨j,hj,rfl⟩:=Option.map_eq_some_iff.1 hk
   obtain ⟨e1,e2⟩:=hp.arm j hj
   have:j≠0:=fun e=>h0 (by rw [hj,e])
   rw [←hav,e1,wrap_i64 (by omega) (by omega)]
   omega
 have h3:St w0 X w3 (dL gd { m with steps:=m.steps+1 } p++DR p.FL N):=h3
 obtain ⟨w4,r4,h4⟩:=h3.stL (i:=0) (o:=3) (off:=3) (T:=3) (v:=.int .i64 av') rfl (L5 _) rfl (by simp [iR]) rfl
 have hsome:(m.arm.map (fun x:Nat=>x-1)).isSome=m.arm.isSome:=by cases m.arm<;>rfl
 have h4:St w0 X w4 (dL gd { m with steps:=m.steps+1,arm:=m.arm.map (fun x:Nat=>x-1) } { p with av:=av' } ++DR p.FL N):=by
   unfold dL iR
   simp only [hsome]
   exact h4
 have C4:=fun {i v T} (hT:(isAgg T).run Tryz.prog w4=.ok false w4) hv=>ah.cell h4 (i:=i) (v:=v) (T:=T) hT hv
 refine ⟨_,ah.cell hS (i:=0) (jQ _) rfl,w3,by rw [w1s];exact r3,_,ah.cell h3 (i:=3) (jQ _) rfl,w4,by show (Instr.storeAt _ _ (.int .i64 (IntKind.wrap .i64 (p.av-1)))).run _ _=_;rw [hav];exact r4,_,_,_,C4 (i:=4) (Gd _) rfl,fun hz=>?_,fun hz=>?_⟩
 · have hfn:m.bW=[]:=List.eq_nil_of_length_eq_zero (by have:=hp.bW.len;simp at hz;omega)
   have e:bp m=({ m with steps:=m.steps+1,arm:=m.arm.map (fun x:Nat=>x-1) },none):=by rw [bp,if_neg h0,hfn]
   rw [e]
   exact ⟨rfl, { p with av:=av' },hps,hp.upd (m.steps+1) m.down _ m.bW ha' hp.bW,h4⟩
 · have hfn:p.fn≠0:=by simpa using hz
   obtain ⟨gf,k,L,hfa,hF,hL⟩:=hp.bW.at_.resolve_left hfn
   have hlen:=hp.bW.len
   have hle:=hp.bW.le
   obtain ⟨x,r,hxr⟩:∃x r,m.bW=x::r:=by
     cases hq:m.bW with
     | nil=>rw [hq] at hlen;simp at hlen;omega
     | cons x r=>exact ⟨x,r,rfl⟩
   have hx63:x≤9223372036854775807:=hp.bW.bd x (by rw [hxr];simp)
   rw [hxr,DJ] at hL
   have hLk:L[k]?=some (.int .i64 (x:Int)):=by
     have:=congrArg (fun l=>l[0]?) hL
     simp only [List.getElem?_take,List.getElem?_drop,Nat.add_zero,List.getElem?_cons_zero] at this
     rwa [if_pos (by omega)] at this
   have hkl:k<L.length:=(List.getElem?_eq_some_iff.1 hLk).1
   have hLr:(L.drop (k+1)).take (p.fn-1)=niv r:=by
     have:=congrArg (List.drop 1) hL
     rw [List.drop_take,List.drop_drop] at this
     simpa using this
   have h4F:(dL gd { m with steps:=m.steps+1,arm:=m.arm.map (fun x:Nat=>x-1) } { p with av:=av' } ++DR p.FL N)[4]?=some (.arr gf 3 L):=by
     show some p.F=_
     rw [hF]
   have hld:(Instr.loadAt 3 (.pointer (some ⟨gf,k+Int.toNat (0:Int)*1,none⟩))).run Tryz.prog w4=.ok (.int .i64 (x:Int)) w4:=h4.ldL h4F (jQ _) rfl hLk
   refine ⟨_,_,_,C4 (i:=4) (Gd _) rfl,gf,k,hfa,by omega,by show (0:Int)<((p.fn:Nat):Int);omega,_,hld,fun hx0=>?_,fun hx0=>?_⟩
   · have hx0:x=0:=by simp at hx0;omega
     subst hx0
     refine ⟨_,_,_,C4 (i:=4) (Gd _) rfl,by omega,by show (1:Int)≤((p.fn:Nat):Int);omega,by show ((p.fn:Nat):Int)≤((p.fc:Nat):Int);omega,fun a' hsub=>?_⟩
     obtain ⟨w5,r5,h5⟩:=h4.stL (i:=0) (o:=4) (off:=4) (T:=29) (v:=.slice a' (p.fn-1) (p.fc-1)) rfl (OZ _) rfl (by simp [iR]) rfl
     have e:bp m=({ m with steps:=m.steps+1,arm:=m.arm.map (fun x:Nat=>x-1),bW:=r },some 2):=by rw [bp,if_neg h0,hxr]
     rw [e]
     refine ⟨w5,r5,rfl, { p with av:=av',fa:=a',fn:=p.fn-1,fc:=p.fc-1 },hps,hp.upd (m.steps+1) m.down _ r ha' ⟨?_,by omega,?_,?_⟩,h5⟩
     · rw [hxr] at hlen;simp at hlen;omega
     · by_cases h1:p.fn-1=0
       · exact .inl h1
       · right
         refine ⟨gf,k+1,L,?_,hF,hLr⟩
         have hne:p.fc≠1:=by omega
         have h2:=hsub.2 hne
         show a'=_
         rw [h2]
         show p.fa.map _=_
         rw [hfa]
         simp [Addr.add]
     · exact fun y hy=>hp.bW.bd y (by rw [hxr];simp [hy])
   · obtain ⟨y,rfl⟩:∃y,x=y+1:=⟨x-1,by simp at hx0;omega⟩
     have wy:IntKind.wrap .i64 (((y+1:Nat):Int)-1)=(y:Int):=by rw [wrap_i64 (by omega) (by omega)];omega
     obtain ⟨w6,r6,h6⟩:=h4.stL (i:=4) (o:=k) (off:=k+Int.toNat (0:Int)*1) (T:=3) (v:=.int .i64 (y:Int)) h4F (L5 _) rfl hkl rfl
     have e:bp m=({ m with steps:=m.steps+1,arm:=m.arm.map (fun x:Nat=>x-1),bW:=y::r },none):=by rw [bp,if_neg h0,hxr]
     rw [e]
     refine ⟨_,_,_,C4 (i:=4) (Gd _) rfl,gf,k,hfa,by omega,by show (0:Int)<((p.fn:Nat):Int);omega,_,hld,gf,k,hfa,by omega,by show (0:Int)<((p.fn:Nat):Int);omega,w6,by rw [wy];exact r6,rfl, { p with av:=av',F:=.arr gf 3 (L.set k (.int .i64 (y:Int))) },hps,hp.upd (m.steps+1) m.down _ (y::r) ha' ⟨?_,hle,?_,?_⟩,h6⟩
     · rw [hxr] at hlen;exact hlen
     · right
       refine ⟨gf,k,_,hfa,rfl,?_⟩
       rw [DJ,←hLr]
       have e1:(L.set k (.int .i64 (y:Int))).drop k=.int .i64 (y:Int)::L.drop (k+1):=by
         rw [List.drop_eq_getElem_cons (by simpa using hkl),List.getElem_set_self,List.drop_set_of_lt (by omega)]
       rw [e1]
       obtain ⟨q,hq⟩:∃q,p.fn=q+1:=⟨p.fn-1,by omega⟩
       rw [hq,List.take_succ_cons]
       rfl
     · intro z hz
       rcases List.mem_cons.1 hz with rfl | hz
       · omega
       · exact hp.bW.bd z (by rw [hxr];simp [hz])

end

end Go.Proofs.YtpmhjnhgpplmnaaGreatDoor
end

section
namespace Go.Proofs.YtpmhjnhgpplmnaaGreatDoor
open Go Sx
set_option maxRecDepth 8000

theorem rG {B:Nat} :∀l:List Nat,(∀x∈l,x≤B)→l.sum≤l.length*B
 | [],_=>by simp
 | x::l,h=>by
   have h1:=rG l fun y hy=>h y (by simp [hy])
   have h2:=h x (by simp)
   rw [List.sum_cons,List.length_cons,Nat.succ_mul]
   omega

section
variable {w0 w w':World} {X:List Nat} {N N':List Res} {gd:Nat} {ps:List Nat} {m:af}

def uJ (fs:List cg) (e:Ent):Nat:=(fileAt fs e.file).data.length
theorem GH (hw:WFD m) (e:Ent):uJ m.files e≤1099511627776:=by
 unfold uJ fileAt
 by_cases hi:e.file<m.files.length
 · rw [List.getD,List.getElem?_eq_getElem hi]
   exact (hw.syn _ (List.getElem_mem hi)).2
 · rw [List.getD,List.getElem?_eq_none (by omega)]
   simp [iP]
theorem KX (hw:WFD m):kB m≤4503599627370496:=by
 have h1:=rG (B:=1099511627776) (m.now.map (uJ m.files)) fun x hx=>by
   obtain ⟨e,_,rfl⟩:=List.mem_map.1 hx
   exact GH hw e
 rw [List.length_map] at h1
 have h2:=hw.dZ.len
 have h3:m.now.length*1099511627776≤4096*1099511627776:=Nat.mul_le_mul_right _ h2
 show (m.now.map (uJ m.files)).sum≤_
 omega

theorem HK (h:ah w0 X w gd ps m N):
   Calls Tryz.prog 228 #[.pointer (some ⟨gd,0,none⟩)] w fun e w'=>e=.returned (.int .i64 (kB m:Int))∧Chg [] w w':=by
 obtain ⟨p,hps,hp,hS⟩:=h
 have hw:=hp.wf
 apply sr
 have hg:w.heap[p.gn]?=some (.map p.esn p.ckn):=hS.holds 1 _ rfl
 have hit:St w [] (w.alloc (.mapIter (some p.gn) p.ckn #[] p.ckn)) [.blk w.heap.size (.mapIter (some p.gn) p.ckn #[] p.ckn)]:=(St.start w).add (Chg.alloc _ _) (heap_alloc_new w _) (by simp [Res.fp])
 obtain ⟨gr,hgr⟩:∃gr,w.heap.size=gr:=⟨_,rfl⟩
 rw [hgr] at hit
 refine ⟨_,ah.cell hS (i:=6) (Bh _) rfl,_,_,run_range_map w 149 9 162 p.gn p.esn p.ckn zq hg,fun x w'=>∃(seen:Array Nat) (out:Dir),x=((out.map (uJ m.files)).sum:Int)∧(out++(jN p.esn p.Mn seen).map (·.2)).Perm p.Mn∧St w [] w' [.blk gr (.mapIter (some p.gn) p.ckn seen p.ckn)],
   fun _ w'=>muR p.gn gr w',⟨#[],[],rfl,by rw [Hv hp.oM,List.nil_append],hit⟩,?_⟩
 rw [hgr]
 rintro x w2 ⟨seen,out,rfl,hperm,h2⟩
 have hS2:=hS.same h2.chg
 have hr2:w2.heap[gr]?=some (.mapIter (some p.gn) p.ckn seen p.ckn):=h2.holds 0 _ rfl
 have hg2:w2.heap[p.gn]?=some (.map p.esn p.ckn):=hS2.holds 1 _ rfl
 rcases E2 (P:=Tryz.prog) hp.oM hr2 hg2 with ⟨hz,hrun⟩ | ⟨e,r,w3,hw3,hrun,hrM,hent,hleft,hlt⟩
 · refine ⟨false,[],w2,hrun,fun h=>(by cases h),fun _=>⟨?_,h2.chg⟩⟩
   rw [hz,List.map_nil,List.append_nil] at hperm
   have hsum:(out.map (uJ m.files)).sum=kB m:=((hperm.trans hp.isn.perm).map (uJ m.files)).sum_nat
   rw [hsum]
 · refine ⟨true,_,_,hrun,fun _=>?_,fun h=>(by cases h)⟩
   have h3:St w [] w3 [.blk gr (.mapIter (some p.gn) p.ckn seen p.ckn)]:=by
     rcases hw3 with rfl | rfl
     · exact h2
     · exact h2.drew
   have h4:=St.y2 h3 (i:=0) (o':=.mapIter (some p.gn) p.ckn (seen.push e.born) p.ckn) rfl
   have h4:St w [] (w3.putObj gr (.mapIter (some p.gn) p.ckn (seen.push e.born) p.ckn)) [.blk gr (.mapIter (some p.gn) p.ckn (seen.push e.born) p.ckn)]:=h4
   have hS4:=hS.same h4.chg
   have hr4:=h4.holds 0 _ rfl
   have hg4:(w3.putObj gr (.mapIter (some p.gn) p.ckn (seen.push e.born) p.ckn)).heap[p.gn]?=some (.map p.esn p.ckn):=hS4.holds 1 _ rfl
   have hrn:=hp.isn.perm.mem_iff.1 hrM
   obtain ⟨f,hf,hpg,hfm⟩:=hp.file (hw.dZ.ent r hrn).1
   have hlr:uJ m.files r=f.data.length:=by rw [uJ,hfm]
   have hp2:(out++ [r]++(jN p.esn p.Mn (seen.push e.born)).map (·.2)).Perm p.Mn:=by
     refine List.Perm.trans ?_ hperm
     rw [List.append_assoc]
     exact List.Perm.append_left out hleft.symm
   have hle:((out++ [r]).map (uJ m.files)).sum≤4503599627370496:=by
     have h1:=rG (B:=1099511627776) ((out++ [r]).map (uJ m.files)) fun x hx=>by
       obtain ⟨e,_,rfl⟩:=List.mem_map.1 hx
       exact GH hw e
     rw [List.length_map] at h1
     have h2:(out++ [r]).length≤4096:=by
       have:=hp2.length_eq
       have h5:=hp.isn.perm.length_eq
       have h6:=hw.dZ.len
       rw [List.length_append] at this
       omega
     have h3:(out++ [r]).length*1099511627776≤4096*1099511627776:=Nat.mul_le_mul_right _ h2
     omega
   have hsumr:((out++ [r]).map (uJ m.files)).sum=(out.map (uJ m.files)).sum+f.data.length:=by rw [List.map_append,List.sum_append,List.map_singleton,List.sum_singleton,hlr]
   have hent':=hent _ hr4 hg4
   have hvl:vlE p.ps r=.pointer (some ⟨f.g,0,none⟩):=by show Value.pointer (some ⟨p.ps.getD r.file 0,0,none⟩)=_;rw [hpg]
   rw [hvl] at hent'
   refine ⟨_,f.g,0,_,hent',_,_,_,(St.x8 hS4 hf).1,⟨seen.push e.born,out++ [r],?_,hp2,h4⟩,?_⟩
   · rw [wrap_i64 (by omega) (by omega),hsumr];omega
   · show muR p.gn gr _<muR p.gn gr _
     rw [Jd hg4 hr4,Jd hg2 hr2,qU hp.oM,qU hp.oM]
     exact hlt

theorem M9 {ps:List Nat} {cs:List ChM} {k g:Nat} (hk:k=ps.length) (h:∀c∈cs,∀i,c.made=some i→i<k):cs.flatMap (chC (ps++ [g]))=cs.flatMap (chC ps):=by
 induction cs with
 | nil=>rfl
 | cons c cs ih=>
   rw [List.flatMap_cons,List.flatMap_cons,ih fun c' hc'=>h c' (by simp [hc'])]
   congr 1
   unfold chC
   cases hm:c.made with
   | none=>rfl
   | some i=>
     have hi:=h c (by simp) i hm
     have:(ps++ [g]).getD i 0=ps.getD i 0:=by simp [List.getD,List.getElem?_append_left (show i<ps.length by omega)]
     simp only [nM,this]
theorem GK {ps:List Nat} {i g:Nat} (hi:i<ps.length):nM (ps++ [g]) i=nM ps i:=by
 have:(ps++ [g]).getD i 0=ps.getD i 0:=by simp [List.getD,List.getElem?_append_left hi]
 simp only [nM,this]
theorem Le (ps:List Nat) (g:Nat):nM (ps++ [g]) ps.length=.pointer (some ⟨g,0,none⟩):=by simp [nM,List.getD]

theorem DOk.psl {p:DP} (hp:DOk m p):p.ps.length=m.files.length:=by have:=congrArg List.length hp.files;simpa [DP.ps] using this

theorem WFD.tG (h:WFD m) {f:cg} (hf:f.syn≤f.data.length∧f.data.length≤1099511627776):WFD { m with files:=m.files++ [f] } :=
 ⟨h.now,fun k=>(h.Bk k).mono (by simp),fun c hc i hi=>by have:=h.made c hc i hi;simp;omega,fun g hg=>by
   rcases List.mem_append.1 hg with hg | hg
   · exact h.syn g hg
   · simp at hg;rw [hg];exact hf,h.size⟩
theorem DOk.tG {p:DP} (hp:DOk m p) (f:FR) (hf:f.syn≤f.data.length∧f.data.length≤1099511627776):DOk { m with files:=m.files++ [f.m] } { p with FL:=p.FL++ [f] } :=by
 have hl:=hp.psl
 have hps:({ p with FL:=p.FL++ [f] } :DP).ps=p.ps++ [f.g]:=by simp [DP.ps]
 refine ⟨hp.wf.tG hf,by simp [hp.files],hp.arm,hp.bW,?_,hp.isn,?_,hp.iss⟩
 · rw [hps]
   refine bD.congr hp.oM fun r hr=>?_
   have:=(hp.wf.dZ.ent r (hp.isn.perm.mem_iff.1 hr)).1
   exact (GK (by omega)).symm
 · rw [hps]
   refine bD.congr hp.maps fun r hr=>?_
   have:=(hp.wf.Ow.ent r (hp.iss.perm.mem_iff.1 hr)).1
   exact (GK (by omega)).symm
theorem St.tG {p:DP} (hp:DOk m p) {f:FR} (h:St w0 X w ((dL gd m p++DR p.FL N)++ [f.blk]++ [f.row])):St w0 X w (dL gd { m with files:=m.files++ [f.m] } { p with FL:=p.FL++ [f] } ++DR (p.FL++ [f]) N):=by
 have hps:({ p with FL:=p.FL++ [f] } :DP).ps=p.ps++ [f.g]:=by simp [DP.ps]
 have e:dL gd { m with files:=m.files++ [f.m] } { p with FL:=p.FL++ [f] } =dL gd m p:=by
   unfold dL
   rw [hps]
   have:=M9 (g:=f.g) hp.psl.symm hp.wf.made
   simp only [this]
   rfl
 rw [e]
 refine h.perm ?_
 have h1:=tL (FL:=p.FL++ [f]) (i:=p.FL.length) (f:=f) (by simp) (dL gd m p) N
 have h2:(p.FL++ [f]).eraseIdx p.FL.length=p.FL:=by simp [List.eraseIdx_append_of_length_le]
 rw [h2] at h1
 refine List.Perm.trans ?_ h1.symm
 rw [List.append_assoc]
 exact List.perm_append_comm

theorem N9 (w:World):(Instr.build 169 #[]).run Tryz.prog w=.ok (.agg #[.slice none 0 0,.int .i64 0]) w:=by
 apply run_build
 kernel_rfl
theorem chT:gF Tryz.prog 150 164 3 40 (.agg #[.pointer none,.string ByteArray.empty,.string ByteArray.empty]):=⟨by kernel_rfl,⟨Tryz.t164,by kernel_rfl,by kernel_rfl,by kernel_rfl,by kernel_rfl⟩,rfl,by decide⟩
theorem xz:Tryz.prog.built 164=fun parts=>Instr.fill (fun i=>(#[(0,1),(1,1),(2,1)]:Array (Nat×Nat))[i]?) #[.pointer none,.string ⟨#[]⟩,.string ⟨#[]⟩] parts:=by kernel_rfl
theorem E8 (g:Nat) (n:Nm) (w:World):(Instr.build 164 #[(0,.pointer (some ⟨g,0,none⟩)),(2,aJ n)]).run Tryz.prog w=.ok (.agg #[.pointer (some ⟨g,0,none⟩),.string ⟨#[]⟩,aJ n]) w:=by
 apply run_build
 rw [xz]
 show Instr.fill _ _ [(0,_),(2,aJ n)]=_
 rw [aA (off:=0) (sz:=1) rfl rfl (by simp),aA (off:=2) (sz:=1) rfl rfl (by simp [Value.cells,aJ])]
 rfl
theorem F7 (a b:Nm) (w:World):(Instr.build 164 #[(1,aJ a),(2,aJ b)]).run Tryz.prog w=.ok (.agg #[.pointer none,aJ a,aJ b]) w:=by
 apply run_build
 rw [xz]
 show Instr.fill _ _ [(1,aJ a),(2,aJ b)]=_
 rw [aA (off:=1) (sz:=1) rfl rfl (by simp),aA (off:=2) (sz:=1) rfl rfl (by simp [Value.cells,aJ])]
 rfl
theorem HE (a:Nm) (w:World):(Instr.build 164 #[(1,aJ a)]).run Tryz.prog w=.ok (.agg #[.pointer none,aJ a,.string ⟨#[]⟩]) w:=by
 apply run_build
 rw [xz]
 show Instr.fill _ _ [(1,aJ a)]=_
 rw [aA (off:=1) (sz:=1) rfl rfl (by simp)]
 rfl

theorem iQ (m:af):(bp m).1.files=m.files∧(bp m).1.now=m.now∧(bp m).1.chs=m.chs∧(bp m).1.syn=m.syn∧(bp m).1.size=m.size:=by
 obtain ⟨s,d,a,f,e⟩:=CO m
 rw [e];exact ⟨rfl,rfl,rfl,rfl,rfl⟩

set_option maxHeartbeats 1000000 in
theorem oV (n:Nm) (h:ah w0 X w gd ps m N) (hb:m.steps<4611686018427387904) (hc:m.chs.length<1000000000):
   Calls Tryz.prog 144 #[.pointer (some ⟨gd,0,none⟩),aJ n] w fun e w'=>e=.returned (bk (aM m n).2)∧∃ps',ah w0 X w' gd ps' (aM m n).1 N:=by
 obtain ⟨mI,hI⟩:=eI
 apply qq
 obtain ⟨g,w1,r1,h1⟩:=(St.start w).lit Hz [aJ n] (by simp [Value.oneCell',aJ]) (by simp)
 have hD1:=h.same h1.chg
 refine ⟨_,_,_,w1,r1,(mQ _ _ _ [n] hD1 (h1.rd (i:=0) rfl) (by simp)).mono ?_⟩
 rintro e w2 ⟨rfl,rfl⟩
 obtain ⟨p,hps,hp,hS⟩:=hD1
 have hw:=hp.wf
 refine ⟨_,rfl,_,au hI _ _ _,fun hne=>?_,fun hok=>?_⟩
 · obtain ⟨e,he⟩:=Option.isSome_iff_exists.1 hne
   have:aM m n=(m,some e):=by unfold aM;rw [he]
   rw [this,he]
   exact ⟨rfl,ps,p,hps,hp,hS⟩
 have hrn:fP m [n]=none:=by simpa using hok
 have hgood:cN n=true:=by
   unfold fP at hrn
   cases hg:cN n with
   | true=>rfl
   | false=>simp [hg] at hrn;split at hrn<;>cases hrn
 have hcr:aM m n=if (findD m.now n).isSome then (m,some 4) else if 4096≤m.now.length then (m,some 19) else aU m fun m=>iG m n:=by unfold aM;rw [hrn]
 have hlk:=Ak hp (w:=w2) (hS.holds 1 _ rfl) n
 refine ⟨_,ah.cell hS (i:=6) (Bh _) rfl,_,_,w2,hlk,fun hyes=>?_,fun hno=>?_⟩
 · rw [hcr,if_pos hyes]
   exact ⟨rfl,ps,p,hps,hp,hS⟩
 have hno':¬(findD m.now n).isSome=true:=by rw [hno];simp
 rw [if_neg hno'] at hcr
 have hfn:findD m.now n=none:=by simpa using hno
 refine ⟨_,ah.cell hS (i:=6) (Bh _) rfl,_,w2,hp.oM.lenOf (P:=Tryz.prog) zq (hS.holds 1 _ rfl) _,fun hge=>?_,fun hlt=>?_⟩
 · have:4096≤m.now.length:=by have:=hp.isn.perm.length_eq;simp at hge;omega
   rw [hcr,if_pos this]
   exact ⟨rfl,ps,p,hps,hp,hS⟩
 have hlen:¬4096≤m.now.length:=by have:=hp.isn.perm.length_eq;simp at hlt;omega
 rw [if_neg hlen] at hcr
 refine (j8 ⟨p,hps,hp,hS⟩ hb).mono ?_
 rintro e w5 ⟨rfl,hD5⟩
 refine ⟨_,rfl,_,au hI _ _ _,fun hne=>?_,fun hok=>?_⟩
 · obtain ⟨e,he⟩:=Option.isSome_iff_exists.1 hne
   rw [hcr]
   unfold aU
   rw [he]
   exact ⟨rfl,ps,hD5⟩
 have hst:(bp m).2=none:=by simpa using hok
 have hres:aM m n=(iG (bp m).1 n,none):=by rw [hcr];unfold aU;rw [hst]
 rw [hres]
 obtain ⟨m1,hm1⟩:∃m1,(bp m).1=m1:=⟨_,rfl⟩
 obtain ⟨e1,e2,e3,e4,_⟩:=iQ m
 rw [hm1] at hD5 e1 e2 e3 e4 ⊢
 clear hS hp hps hlk hlt
 clear p
 obtain ⟨p,hps,hp,hS⟩:=hD5
 obtain ⟨g,w6,r6,h6⟩:=hS.box (P:=Tryz.prog) 169 (.agg #[.slice none 0 0,.int .i64 0])
 have h6':=h6.b8 5 1
 let f:FR:=⟨g,none,0,[],0⟩
 have h6':St w0 X w6 ((dL gd m1 p++DR p.FL N)++ [f.blk]++ [f.row]):=h6'
 have h7:=St.tG hp h6'
 have hp7:=hp.tG f ⟨Nat.le_refl _,by simp [f]⟩
 have hfz:f.m=iP:=rfl
 rw [hfz] at h7 hp7
 obtain ⟨m2,hm2⟩:∃m2,({ m1 with files:=m1.files++ [iP] } :af)=m2:=⟨_,rfl⟩
 obtain ⟨p2,hp2⟩:∃p2,({ p with FL:=p.FL++ [f] } :DP)=p2:=⟨_,rfl⟩
 have hps2:p2.ps=ps++ [g]:=by rw [←hp2,←hps];simp [DP.ps,f]
 have hpsl:ps.length=m1.files.length:=by rw [←hps];exact hp.psl
 have hFL:p.FL++ [f]=p2.FL:=by rw [←hp2]
 rw [hm2,hp2] at hp7
 rw [hm2,hp2,hFL] at h7
 have hm2n:m2.now=m1.now:=by rw [←hm2]
 have hm2c:m2.chs=m1.chs:=by rw [←hm2]
 have hm2f:m2.files=m1.files++ [iP]:=by rw [←hm2]
 have hgn:w6.heap[p2.gn]?=some (.map p2.esn p2.ckn):=h7.holds 1 _ rfl
 obtain ⟨es',ck',rU,hE'⟩:=hp7.oM.wM (P:=Tryz.prog) (IX p2.Mn) zq hgn (⟨n,m1.files.length⟩:Ent) trivial
 have hval:vlE p2.ps (⟨n,m1.files.length⟩:Ent)=.pointer (some ⟨g,0,none⟩):=by
   show nM p2.ps m1.files.length=_
   rw [hps2,←hpsl]
   exact Le ps g
 rw [hval] at rU
 have h8:=St.y2 h7 (i:=1) (o':=.map es' ck') rfl
 have h8:St w0 X (w6.putObj p2.gn (.map es' ck')) (dL gd m2 { p2 with esn:=es',ckn:=ck' } ++DR p2.FL N):=h8
 have hl8:m2.chs.length<1000000000:=by rw [hm2c,e3];exact hc
 obtain ⟨g9,w9,vb,vd,w10,r9,r10,h10,_⟩:=h8.tP (i:=3) (ty:=150) chT rfl (chC p2.ps (gx m1 n)) (jT _ _) (by decide) (sx _ _) (by omega) (by simp only [maxLen];omega)
 have hcc:(chC p2.ps (gx m1 n)).toArray= #[.pointer (some ⟨g,0,none⟩),.string ⟨#[]⟩,aJ n]:=by
   show ([nM p2.ps m1.files.length,aJ [],aJ n]:List Value).toArray=_
   have:nM p2.ps m1.files.length=.pointer (some ⟨g,0,none⟩):=hval
   rw [this];rfl
 rw [hcc] at r9
 obtain ⟨w11,r11,h11⟩:=h10.stL (i:=0) (o:=8) (off:=8) (T:=150) (v:=.slice vb (m2.chs.length+1) vd) rfl (Lb _) rfl (by simp [iR]) rfl
 have hfin:iG m1 n= { iS m2 (gx m1 n) with files:=m2.files } :=by
   rw [←hm2];rfl
 refine ⟨_,N9 w5,g,w6,r6,_,ah.cell h7 (i:=6) (Bh _) rfl,_,rU,_,_,_,ah.cell h8 (i:=8) (Na _) rfl,_,E8 g n _,_,_,_,w9,r9,vb,_,vd,w10,r10,w11,r11,rfl,p2.ps, { p2 with esn:=es',ckn:=ck',ca:=vb,cc:=vd,Mn:=wE Ent.name p2.Mn ⟨n,m1.files.length⟩ },rfl,?_,?_⟩
 · rw [hfin]
   have hno1:findD m1.now n=none:=by rw [e2];exact hfn
   have hmk:mkD m2.now (gx m1 n)=eD Ent.name m2.now ⟨n,m1.files.length⟩:=rfl
   refine ⟨hp7.wf.snoc (Nat.le_refl _) hp7.wf.syn (fun i hi=>?_) ?_,hp7.files,hp7.arm,hp7.bW,hE',hp7.isn.upd _,hp7.maps,hp7.iss⟩
   · have:i=m1.files.length:=by
       have:some m1.files.length=some i:=hi
       exact (Option.some.inj this).symm
     rw [hm2f,this];simp
   · rw [hmk]
     refine hp7.wf.dZ.ins (by rw [hm2f];simp) hgood (.inl ?_) fun x hx _=>?_
     · rw [hm2n,e2];omega
     · rw [hm2n] at hx
       have:=(hp.wf.dZ.ent x hx).1
       omega
 · rw [hfin]
   show St w0 X w11 (dL gd { iS m2 (gx m1 n) with files:=m2.files } { p2 with esn:=es',ckn:=ck',ca:=vb,cc:=vd,Mn:=wE Ent.name p2.Mn ⟨n,m1.files.length⟩ } ++DR p2.FL N)
   have el:(m2.chs++ [gx m1 n]).length=m2.chs.length+1:=by simp
   have ef:(m2.chs++ [gx m1 n]).flatMap (chC p2.ps)=m2.chs.flatMap (chC p2.ps)++chC p2.ps (gx m1 n):=by simp
   unfold dL iR iS
   show St w0 X w11 (.arr gd 152 _:: .blk _ _:: .blk _ _:: .row _ _ (.slice vb (m2.chs++ [gx m1 n]).length vd) (m2.chs++ [gx m1 n]).length ((m2.chs++ [gx m1 n]).flatMap (chC p2.ps))::_::_)
   simp only [el,ef]
   exact h11

end

end Go.Proofs.YtpmhjnhgpplmnaaGreatDoor
end

section
namespace Go.Proofs.YtpmhjnhgpplmnaaGreatDoor
open Go Sx
set_option maxRecDepth 8000

section
variable {w0 w w':World} {X:List Nat} {N N':List Res} {gd:Nat} {ps:List Nat} {m:af}

theorem jw {fs:List cg} {i:Nat} {f:cg→cg} (hi:i<fs.length):fileAt (gD fs i f) i=f (fileAt fs i):=by
 simp [fileAt,gD,List.getD,hi]
theorem iq {fs:List cg} {i j:Nat} {f:cg→cg} (h:i≠j):fileAt (gD fs i f) j=fileAt fs j:=by
 simp [fileAt,gD,List.getD,List.getElem?_set_ne h]
theorem mq (fs:List cg) (i:Nat) (f:cg→cg):(gD fs i f).length=fs.length:=by simp [gD]
theorem Ix {fs:List cg} {i:Nat} {f:cg→cg} (h:f (fileAt fs i)=fileAt fs i):gD fs i f=fs:=by
 unfold gD
 rw [h]
 by_cases hi:i<fs.length
 · have:fileAt fs i=fs[i]:=by simp [fileAt,List.getD,hi]
   rw [this,List.set_getElem_self]
 · rw [List.set_eq_of_length_le (by omega)]
theorem Ih {fs:List cg} {i:Nat} {f g:cg→cg} (hi:i<fs.length):gD (gD fs i f) i g=gD fs i fun x=>g (f x):=by
 unfold gD
 have:fileAt (fs.set i (f (fileAt fs i))) i=f (fileAt fs i):=by simp [fileAt,List.getD,hi]
 rw [this,List.set_set]

theorem WFD.files (h:WFD m) {fs:List cg} (hl:fs.length=m.files.length) (hs:∀f∈fs,f.syn≤f.data.length∧f.data.length≤1099511627776):WFD { m with files:=fs } :=
 ⟨h.now,fun k=>by show fE fs.length _;rw [hl];exact h.Bk k,fun c hc i hi=>by show i<fs.length;rw [hl];exact h.made c hc i hi,hs,h.size⟩
theorem wS (h:∀f∈m.files,f.syn≤f.data.length∧f.data.length≤1099511627776) {i:Nat} {g:cg} (hg:g.syn≤g.data.length∧g.data.length≤1099511627776):∀f∈gD m.files i (fun _=>g),f.syn≤f.data.length∧f.data.length≤1099511627776:=by
 intro f hf
 rcases List.mem_or_eq_of_mem_set hf with h1 | h1
 · exact h f h1
 · rw [h1];exact hg

theorem DOk.tR {p:DP} (hp:DOk m p) {i:Nat} {f f':FR} (hf:p.FL[i]?=some f) (hg:f'.g=f.g) (hs:f'.syn≤f'.data.length∧f'.data.length≤1099511627776):DOk { m with files:=gD m.files i fun _=>f'.m } { p with FL:=p.FL.set i f' } ∧({ p with FL:=p.FL.set i f' } :DP).ps=p.ps:=by
 have hps:({ p with FL:=p.FL.set i f' } :DP).ps=p.ps:=by
   unfold DP.ps
   rw [List.map_set,hg]
   have:(p.FL.map FR.g)[i]?=some f.g:=by rw [List.getElem?_map,hf];rfl
   obtain ⟨h1,h2⟩:=List.getElem?_eq_some_iff.1 this
   rw [←h2,List.set_getElem_self]
 refine ⟨⟨hp.wf.files (mq _ _ _) (wS hp.wf.syn hs),?_,hp.arm,hp.bW,?_,hp.isn,?_,hp.iss⟩,hps⟩
 · show (p.FL.set i f').map FR.m=gD m.files i fun _=>f'.m
   rw [List.map_set,hp.files];rfl
 · rw [hps];exact hp.oM
 · rw [hps];exact hp.maps

theorem St.tR {p:DP} {i:Nat} {f f':FR} (hf:p.FL[i]?=some f) (hps:({ p with FL:=p.FL.set i f' } :DP).ps=p.ps) (h:St w0 X w' (f'.blk::f'.row::(dL gd m p++DR (p.FL.eraseIdx i) N))):St w0 X w' (dL gd { m with files:=gD m.files i fun _=>f'.m } { p with FL:=p.FL.set i f' } ++DR (p.FL.set i f') N):=by
 have hl:=(List.getElem?_eq_some_iff.1 hf).1
 have e:dL gd { m with files:=gD m.files i fun _=>f'.m } { p with FL:=p.FL.set i f' } =dL gd m p:=by
   unfold dL
   rw [hps]
   rfl
 rw [e]
 have h1:=tL (FL:=p.FL.set i f') (i:=i) (f:=f') (by simp [hl]) (dL gd m p) N
 rw [eraseIdx_set] at h1
 exact h.perm h1.symm

theorem qM:∀(l:List Nat) (x:Nat),x∈l→x≤l.sum
 | [],x,h=>by simp at h
 | y::l,x,h=>by
   rw [List.sum_cons]
   rcases List.mem_cons.1 h with rfl | h
   · omega
   · have:=qM l x h;omega
theorem G3:∀(qs:List (List UInt8)) (r:Int),fits r qs=true→qs=[]∨(qs.flatten.length:Int)≤r
 | [],r,_=>.inl rfl
 | p::qs,r,h=>by
   simp only [fits,Bool.and_eq_true,decide_eq_true_eq] at h
   right
   rcases G3 qs _ h.2 with rfl | h2
   · simpa using h.1
   · rw [List.flatten_cons,List.length_append];omega

theorem dW (m:af) (i:Nat) (qs:List (List UInt8)):(bI m i qs).files=gD m.files i fun f=>⟨f.data++qs.flatten,f.syn⟩:=rfl

set_option maxHeartbeats 1000000 in
theorem oA (n:Nm) (a:Option Addr) (k c:Nat) (vs:List Value) (qs:List (List UInt8)) (h:ah w0 X w gd ps m N) (hq:∀ {w' ps' m'},ah w0 X w' gd ps' m' N→Rd w' a k c 1 vs∧eL w' vs qs) (hb:m.steps<4611686018427387904) (hk:k≤1000000000):
   Calls Tryz.prog 145 #[.pointer (some ⟨gd,0,none⟩),aJ n,.slice a k c] w fun e w'=>e=.returned (bk (aO m n qs).2)∧ah w0 X w' gd ps (aO m n qs).1 N:=by
 obtain ⟨mI,hI⟩:=eI
 have hw:=h.wf
 have hqk:qs.length=k:=by
   obtain ⟨h1,h2⟩:=hq h
   have:=h1.len
   have:=h2.len
   omega
 apply p5
 refine (iV n h).mono ?_
 rintro e w1 ⟨rfl,c1⟩
 have hD1:=h.same c1
 refine ⟨_,_,rfl,_,au hI _ _ _,fun hne=>?_,fun hok=>?_⟩
 · obtain ⟨e,he⟩:=Option.isSome_iff_exists.1 hne
   have:aO m n qs=(m,some e):=by unfold aO;rw [he]
   rw [this,he]
   exact ⟨rfl,hD1⟩
 have hfn:bX m n=none:=by simpa using hok
 rw [if_pos hfn]
 obtain ⟨hil,e0,he0,hen,hef,_⟩:=pK hw hfn
 have hap:aO m n qs=if fits (m.size-kB m) qs then aU m fun m'=>bI m' (cI m n) qs else (m,some 3):=by simp only [aO,hfn]
 have hsz:=hw.size
 have hus:=KX hw
 refine ⟨fun w'=>ah w0 X w' gd ps m N,hD1.same (Chg.drew [] w1),m.size,fun w' h'=>?_,(HK (hD1.same (Chg.drew [] w1))).mono ?_⟩
 · obtain ⟨p,_,_,hS⟩:=h'
   exact ah.cell hS (i:=5) (jQ _) rfl
 rintro e w2 ⟨rfl,c2⟩
 have hD2:=(hD1.same (Chg.drew [] w1)).same c2
 have wr:IntKind.wrap .i64 (m.size- (kB m:Int))=m.size- (kB m:Int):=wrap_i64 (by omega) (by omega)
 refine ⟨_,rfl,fun w'=>ah w0 X w' gd ps m N,fun _ h=>h,hD2,?_⟩
 rw [wr]
 refine ⟨fun x y w'=>∃i:Nat,y=(i:Int)∧i≤k∧x≤67108864∧ -9007199254740992≤x∧fits (m.size-kB m) qs=fits x (qs.drop i)∧w'=w2,fun _ y _=>k-y.toNat,⟨0,rfl,by omega,by omega,by omega,by simp,rfl⟩,?_⟩
 rintro x y w3 ⟨i,rfl,hi,hx1,hx2,hfit,rfl⟩
 obtain ⟨hr,h2⟩:=hq hD2
 refine ⟨fun hlt=>?_,fun hge=>?_⟩
 · have hi':i<k:=by simp at hlt;omega
   obtain ⟨b,o,a',n',c',ha,hv,hrd,q⟩:=ixS hr.cells h2 (i:=i) (by omega)
   have hln:=hrd.bh
   have hdr:qs.drop i=qs.getD i []::qs.drop (i+1):=by rw [List.drop_eq_getElem_cons (by omega)];simp [List.getD,show i<qs.length by omega]
   rw [hdr,fits,hln] at hfit
   refine ⟨b,o,ha,by omega,by omega,_,_,_,q w3 hr.cells,fun hgt=>?_,fun hle=>?_⟩
   · have:¬((n':Int)≤x):=by simp at hgt;omega
     rw [hap,hfit]
     simp only [this,decide_false,Bool.false_and,Bool.false_eq_true,if_false]
     exact ⟨rfl,hD2⟩
   · have hle:(n':Int)≤x:=by simp at hle;omega
     refine ⟨⟨i+1,aq hi' (by omega),by omega,?_,?_,?_,rfl⟩,aB hi' (by omega)⟩
     · rw [wrap_i64 (by omega) (by omega)];omega
     · rw [wrap_i64 (by omega) (by omega)];omega
     · rw [wrap_i64 (by omega) (by omega),hfit,decide_eq_true hle,Bool.true_and]
 have hi':i=k:=by simp at hge;omega
 have hft:fits (m.size-kB m) qs=true:=by rw [hfit,hi',List.drop_of_length_le (by omega)];rfl
 rw [hft,if_pos rfl] at hap
 refine (j8 hD2 hb).mono ?_
 rintro e w4 ⟨rfl,hD4⟩
 refine ⟨_,rfl,_,au hI _ _ _,fun hne=>?_,fun hok=>?_⟩
 · obtain ⟨e,he⟩:=Option.isSome_iff_exists.1 hne
   rw [hap]
   unfold aU
   rw [he]
   exact ⟨rfl,hD4⟩
 have hst:(bp m).2=none:=by simpa using hok
 have hres:aO m n qs=(bI (bp m).1 (cI m n) qs,none):=by rw [hap];unfold aU;rw [hst]
 rw [hres]
 obtain ⟨m1,hm1⟩:∃m1,(bp m).1=m1:=⟨_,rfl⟩
 obtain ⟨e1,e2,e3,e4,_⟩:=iQ m
 rw [hm1] at hD4 e1 e2 e3 e4 ⊢
 obtain ⟨j,hj⟩:∃j,cI m n=j:=⟨_,rfl⟩
 rw [hj] at hil hef ⊢
 -- how long the file may grow
 have hbound:∀t,(fileAt m1.files j).data.length+(qs.take t).flatten.length≤1099511627776:=by
   intro t
   have hdl:=(hw.syn (fileAt m.files j) (by simp [fileAt,List.getD,hil])).2
   rcases G3 qs _ hft with rfl | hle
   · rw [e1];simpa using hdl
   · have h1:(fileAt m.files j).data.length≤kB m:=qM _ _ (List.mem_map.2 ⟨e0,he0,by rw [hef]⟩)
     have h2:=bQ qs t
     rw [e1];omega
 have happ0:bI m1 j ([]:List (List UInt8))=m1:=by
   unfold bI
   rw [Ix (by simp)]
 refine ⟨fun y w'=>∃i:Nat,y=(i:Int)∧i≤k∧ah w0 X w' gd ps (bI m1 j (qs.take i)) N,fun y _=>k-y.toNat,⟨0,rfl,by omega,by rw [List.take_zero,happ0];exact hD4⟩,?_⟩
 rintro y w5 ⟨i,rfl,hi,hD5⟩
 refine ⟨fun hlt=>?_,fun hge=>?_⟩
 · have hi':i<k:=by simp at hlt;omega
   obtain ⟨hr,h2⟩:=hq hD5
   obtain ⟨b,o,a',n',c',ha,hv,hrd,q⟩:=ixS hr.cells h2 (i:=i) (by omega)
   have hln:=hrd.bh
   obtain ⟨p,hps,hp,hS⟩:=hD5
   have hjl:j<(bI m1 j (qs.take i)).files.length:=by rw [dW,mq,e1];exact hil
   obtain ⟨f,hf,hpg,hfm⟩:=hp.file hjl
   have hfm2:fileAt (bI m1 j (qs.take i)).files j=⟨(fileAt m1.files j).data++(qs.take i).flatten,(fileAt m1.files j).syn⟩:=by rw [dW,jw (by rw [e1];exact hil)]
   have hfd:f.data=(fileAt m1.files j).data++(qs.take i).flatten:=by rw [hfm2] at hfm;exact (congrArg cg.data hfm).symm
   have hfs:f.syn=(fileAt m1.files j).syn:=by rw [hfm2] at hfm;exact (congrArg cg.syn hfm).symm
   have hptr:nM ps j=.pointer (some ⟨f.g,0,none⟩):=by rw [←hps];show Value.pointer (some ⟨p.ps.getD j 0,0,none⟩)=_;rw [hpg]
   have hfo:=hS.perm (tL hf (dL gd _ p) N)
   have htk:=iT (ls:=qs) (i:=i) (by omega)
   have hb1:=hbound (i+1)
   rw [htk,List.length_append] at hb1
   have hfl:f.data.length=(fileAt m1.files j).data.length+(qs.take i).flatten.length:=by rw [hfd,List.length_append]
   obtain ⟨va,vc,w6,r6,h6⟩:=hfo.bL (i:=1) rfl hrd (by omega)
   obtain ⟨w7,r7,h7⟩:=h6.stL (i:=0) (o:=0) (off:=0) (T:=26) (v:=.slice va (f.data.length+n') vc) rfl (bsS _) rfl (by simp) rfl
   let f':FR:=⟨f.g,va,vc,f.data++qs.getD i [],f.syn⟩
   have hf'l:f'.data.length=f.data.length+n':=by show (f.data++qs.getD i []).length=_;rw [List.length_append,hln]
   have h8:St w0 X w7 (f'.blk::f'.row::(dL gd (bI m1 j (qs.take i)) p++DR (p.FL.eraseIdx j) N)):=by
     unfold FR.blk FR.row FR.val
     rw [hf'l]
     exact h7
   have hsyn:f.syn≤f.data.length:=by
     have:=hp.wf.syn (fileAt (bI m1 j (qs.take i)).files j) (by simp [fileAt,List.getD,hjl])
     rw [hfm] at this
     exact this.1
   obtain ⟨hp',hps'⟩:=hp.tR (f':=f') hf rfl ⟨by rw [hf'l];show f.syn≤_;omega,by rw [hf'l];omega⟩
   have h9:=St.tR hf hps' h8
   refine ⟨b,o,ha,by omega,by omega,_,_,_,q w5 hr.cells,f.g,0,hptr,_,_,_,(St.x8 hS hf).1,va,_,vc,w6,r6,f.g,0,hptr,w7,r7,⟨i+1,aq hi' (by omega),by omega,?_⟩,aB hi' (by omega)⟩
   have hmm:bI m1 j (qs.take (i+1))= { bI m1 j (qs.take i) with files:=gD (bI m1 j (qs.take i)).files j fun _=>f'.m } :=by
     have e0:bI m1 j (qs.take (i+1))= { m1 with files:=gD m1.files j fun f=>⟨f.data++(qs.take (i+1)).flatten,f.syn⟩ } :=rfl
     have e1':({ bI m1 j (qs.take i) with files:=gD (bI m1 j (qs.take i)).files j fun _=>f'.m } :af)= { m1 with files:=gD (bI m1 j (qs.take i)).files j fun _=>f'.m } :=rfl
     rw [e0,e1',dW,Ih (by rw [e1];exact hil),htk]
     have e2':gD m1.files j (fun f=>⟨f.data++((qs.take i).flatten++qs.getD i []),f.syn⟩)=gD m1.files j fun _=>f'.m:=by
       unfold gD
       have:(⟨(fileAt m1.files j).data++((qs.take i).flatten++qs.getD i []),(fileAt m1.files j).syn⟩:cg)=f'.m:=by
         show _=(⟨f.data++qs.getD i [],f.syn⟩:cg)
         rw [hfd,hfs,List.append_assoc]
       simp only [this]
     rw [e2']
   rw [hmm]
   exact ⟨_,hps'.trans hps,hp',h9⟩
 · have hi':i=k:=by simp at hge;omega
   rw [hi',List.take_of_length_le (by omega)] at hD5
   exact ⟨rfl,hD5⟩

theorem uw (n:Nm) (h:ah w0 X w gd ps m N) (hb:m.steps<4611686018427387904):
   Calls Tryz.prog 146 #[.pointer (some ⟨gd,0,none⟩),aJ n] w fun e w'=>e=.returned (bk (cV m n).2)∧ah w0 X w' gd ps (cV m n).1 N:=by
 obtain ⟨mI,hI⟩:=eI
 have hw:=h.wf
 apply uf
 refine (iV n h).mono ?_
 rintro e w1 ⟨rfl,c1⟩
 have hD1:=h.same c1
 refine ⟨_,_,rfl,_,au hI _ _ _,fun hne=>?_,fun hok=>?_⟩
 · obtain ⟨e,he⟩:=Option.isSome_iff_exists.1 hne
   have:cV m n=(m,some e):=by unfold cV;rw [he]
   rw [this,he]
   exact ⟨rfl,hD1⟩
 have hfn:bX m n=none:=by simpa using hok
 rw [if_pos hfn]
 obtain ⟨hil,_⟩:=pK hw hfn
 have hap:cV m n=aU m fun m'=>kL m' (cI m n):=by simp only [cV,hfn]
 refine (j8 hD1 hb).mono ?_
 rintro e w4 ⟨rfl,hD4⟩
 refine ⟨_,rfl,_,au hI _ _ _,fun hne=>?_,fun hok=>?_⟩
 · obtain ⟨e,he⟩:=Option.isSome_iff_exists.1 hne
   rw [hap]
   unfold aU
   rw [he]
   exact ⟨rfl,hD4⟩
 have hst:(bp m).2=none:=by simpa using hok
 have hres:cV m n=(kL (bp m).1 (cI m n),none):=by rw [hap];unfold aU;rw [hst]
 rw [hres]
 obtain ⟨m1,hm1⟩:∃m1,(bp m).1=m1:=⟨_,rfl⟩
 obtain ⟨e1,e2,e3,e4,_⟩:=iQ m
 rw [hm1] at hD4 e1 e2 e3 e4 ⊢
 obtain ⟨j,hj⟩:∃j,cI m n=j:=⟨_,rfl⟩
 rw [hj] at hil ⊢
 obtain ⟨p,hps,hp,hS⟩:=hD4
 obtain ⟨f,hf,hpg,hfm⟩:=hp.file (i:=j) (by rw [e1];exact hil)
 have hptr:nM ps j=.pointer (some ⟨f.g,0,none⟩):=by rw [←hps];show Value.pointer (some ⟨p.ps.getD j 0,0,none⟩)=_;rw [hpg]
 have hfo:=hS.perm (tL hf (dL gd _ p) N)
 obtain ⟨w7,r7,h7⟩:=hfo.stL (i:=0) (o:=1) (off:=1) (T:=3) (v:=.int .i64 (f.data.length:Int)) rfl (L5 _) rfl (by simp) rfl
 let f':FR:=⟨f.g,f.a,f.c,f.data,f.data.length⟩
 have h8:St w0 X w7 (f'.blk::f'.row::(dL gd m1 p++DR (p.FL.eraseIdx j) N)):=h7
 have hdl:f.data.length≤1099511627776:=by
   have:=hp.wf.syn (fileAt m1.files j) (by simp [fileAt,List.getD,show j<m1.files.length by rw [e1];exact hil])
   rw [hfm] at this
   exact this.2
 obtain ⟨hp',hps'⟩:=hp.tR (f':=f') hf rfl ⟨Nat.le_refl _,hdl⟩
 have h9:=St.tR hf hps' h8
 refine ⟨f.g,0,hptr,_,_,_,(St.x8 hS hf).1,f.g,0,hptr,w7,r7,rfl,?_⟩
 have hmm:kL m1 j= { m1 with files:=gD m1.files j fun _=>f'.m } :=by
   unfold kL gD
   rw [hfm];rfl
 rw [hmm]
 exact ⟨_,hps'.trans hps,hp',h9⟩

theorem NN (op:BinOp) (hop:op=.eql∨op=.neq) (x y:Operand) (g:Nat) (w:World):(dK op 149 x y (.map (some g)) (.map none)).run Tryz.prog w=.ok (.bool (op== .neq)) w:=by
 have h1:∀d,(Op.equalIn (d+1) 149 (.map (some g)) (.map none)).run Tryz.prog w=.ok false w:=fun d=>by simp [Op.equalIn,run_underlying zq]
 have h2:(eqGuard op 149 x y (.map (some g)) (.map none)).run Tryz.prog w=.ok () w:=by rcases hop with rfl | rfl<;>rfl
 rcases hop with rfl | rfl<;>simp [dK,h2,binOp,Op.equal,show Op.maxDepth=9999+1 from rfl,h1 9999]

theorem Hq (g:Nat) (es:Array MapEntry) (ck:Nat) (w:World) (hg:w.heap[g]?=some (.map es ck)):
   Calls Tryz.prog 78 #[.map (some g)] w fun e w'=>∃g',e=.returned (.map (some g'))∧w.heap.size≤g'∧Chg [] w w'∧w'.heap[g']?=some (.map es ck):=by
 apply fL
 refine ⟨_,NN .eql (.inl rfl) _ _ g w,fun h=>by simp at h,fun _=>⟨.iface 149 (.map (some w.heap.size)),w.alloc (.map es ck),?_,_,?_,w.heap.size,rfl,Nat.le_refl _,Chg.alloc _ _,heap_alloc_new w _⟩⟩
 · rw [run_callFunc_extern Tryz.func172 (by kernel_rfl) (by kernel_rfl) (by kernel_rfl) (e:=Extern.MapsClone.clone) (by kernel_rfl)]
   have e:Extern.MapsClone.clone #[.iface 149 (.map (some g))]=(do
       match ←getObj g with
       | .map entries clock=>do pure (.iface 149 (.map (some (←newObj (.map entries clock)))))
       | _=>stuck "maps.clone: a map expected" :Sem Value):=rfl
   rw [e]
   have e2:(getObj g).run Tryz.prog w=.ok (.map es ck) w:=by simp [getObj,Sem.run,hg]
   simp only [Sem.run_bind,e2,Result.andThen_ok,run_newObj_alloc]
   rfl
 · simp [Instr.typeAssert,run_underlying zq]

theorem mJ (h:ah w0 X w gd ps m N) (hb:m.steps<4611686018427387904):
   Calls Tryz.prog 84 #[.pointer (some ⟨gd,0,none⟩)] w fun e w'=>e=.returned (bk (aK m).2)∧ah w0 X w' gd ps (aK m).1 N:=by
 obtain ⟨mI,hI⟩:=eI
 have hw:=h.wf
 apply oq
 refine (mQ none 0 0 [] h ⟨Cells.nil _ _,rfl,Nat.le_refl _,fun _=>rfl⟩ (by omega)).mono ?_
 rintro e w1 ⟨rfl,rfl⟩
 refine ⟨_,rfl,_,au hI _ _ _,fun hne=>?_,fun hok=>?_⟩
 · obtain ⟨e,he⟩:=Option.isSome_iff_exists.1 hne
   have:aK m=(m,some e):=by unfold aK;rw [he]
   rw [this,he]
   exact ⟨rfl,h⟩
 have hfn:fP m []=none:=by simpa using hok
 have hap:aK m=aU m fO:=by unfold aK;rw [hfn]
 refine (j8 h hb).mono ?_
 rintro e w2 ⟨rfl,hD2⟩
 refine ⟨_,rfl,_,au hI _ _ _,fun hne=>?_,fun hok=>?_⟩
 · obtain ⟨e,he⟩:=Option.isSome_iff_exists.1 hne
   rw [hap]
   unfold aU
   rw [he]
   exact ⟨rfl,hD2⟩
 have hst:(bp m).2=none:=by simpa using hok
 have hres:aK m=(fO (bp m).1,none):=by rw [hap];unfold aU;rw [hst]
 rw [hres]
 obtain ⟨m1,hm1⟩:∃m1,(bp m).1=m1:=⟨_,rfl⟩
 rw [hm1] at hD2 ⊢
 obtain ⟨p,hps,hp,hS⟩:=hD2
 have hg:w2.heap[p.gn]?=some (.map p.esn p.ckn):=hS.holds 1 _ rfl
 refine ⟨_,ah.cell hS (i:=6) (Bh _) rfl,(Hq p.gn p.esn p.ckn w2 hg).mono ?_⟩
 rintro e w3 ⟨g',rfl,hg',c3,hh⟩
 have h3:=hS.upd (i:=2) (r':=.blk g' (.map p.esn p.ckn)) rfl (c3.mono (by simp)) hh (by simp [Res.fp];exact .inr hg')
 obtain ⟨w4,r4,h4⟩:=h3.stL (i:=0) (o:=7) (off:=7) (T:=149) (v:=.map (some g')) rfl (Pw _) rfl (by simp [iR]) rfl
 obtain ⟨w5,r5,h5⟩:=h4.stL (i:=0) (o:=8) (off:=8) (T:=150) (v:=.slice none 0 0) rfl (Lb _) rfl (by simp [iR]) rfl
 have h6:=h5.upd (i:=3) (r':=.row 164 3 (.slice none 0 0) 0 []) rfl (Chg.refl _ _) (World.ownsRow_nil _ _ _ _) (by simp [Res.fp,Value.ownBlock])
 refine ⟨_,rfl,w4,r4,w5,r5,rfl, { p with gs:=g',ess:=p.esn,cks:=p.ckn,Ms:=p.Mn,ca:=none,cc:=0 },hps,?_,h6⟩
 exact ⟨⟨rfl,fun k=>by show fE _ (replay m1.now (([]:List ChM).take k));rw [List.take_nil];exact hp.wf.dZ,by simp [fO],hp.wf.syn,hp.wf.size⟩,hp.files,hp.arm,hp.bW,hp.oM,hp.isn,hp.oM,hp.isn⟩

end

end Go.Proofs.YtpmhjnhgpplmnaaGreatDoor
end

section
namespace Go.Proofs.YtpmhjnhgpplmnaaGreatDoor
open Go Sx
set_option maxRecDepth 8000

section
variable {w0 w w':World} {X:List Nat} {N N':List Res} {gd:Nat} {ps:List Nat} {m:af}

theorem vq (op:BinOp) (hop:op=.eql∨op=.neq) {T e:TypeId} (hT:Tryz.prog.underlying T=some (.pointer e)) (x y:Operand) (a:Option Addr) (w:World):(dK op T x y (.pointer a) (.pointer none)).run Tryz.prog w=.ok (.bool (if op== .neq then a.isSome else a.isNone)) w:=by
 have h1:∀d,(Op.equalIn (d+1) T (.pointer a) (.pointer none)).run Tryz.prog w=.ok a.isNone w:=fun d=>by cases a<;>simp [Op.equalIn,run_underlying hT]
 have h2:(eqGuard op T x y (.pointer a) (.pointer none)).run Tryz.prog w=.ok () w:=by rcases hop with rfl | rfl<;>rfl
 rcases hop with rfl | rfl<;>cases a<;>simp [dK,h2,binOp,Op.equal,show Op.maxDepth=9999+1 from rfl,h1 9999]

theorem NM {gs:List Nat} {g:Nat} {es:Array MapEntry} {ck:Nat} {Mn d:Dir} (hE:bD kyE (vlE gs) es ck Mn) (hD:dB Ent.name Mn d) (hg:w.heap[g]?=some (.map es ck)) (n:Nm) (ok:Bool):
   (Instr.lookup 149 (.map (some g)) (aJ n) true).run Tryz.prog w=.ok (.tuple #[((findD d n).map (vlE gs)).getD (.pointer none),.bool (findD d n).isSome]) w:=by
 have hl:=hE.BF (P:=Tryz.prog) (IX Mn) zq hg (id:=n) trivial pfZ
 have hf:=hD.find n
 rw [hl]
 cases hq:dQ Ent.name Mn n with
 | none=>rw [hq] at hf;rw [show findD d n=none from hf.symm];rfl
 | some q=>rw [hq] at hf;rw [show findD d n=some q.2 from hf.symm];rfl

theorem pfT:Tryz.prog.underlying 162=some (.pointer 169):=Tryz.underlying162
theorem pfA (w:World):(isAgg 162).run Tryz.prog w=.ok false w:=Tryz.isAgg162 w
theorem jm {M:List Res} {x:Res} :(M++ [x])[M.length]?=some x:=by simp

theorem Ag {M:List Res} {i g:Nat} {gs:List Nat} {es:Array MapEntry} {ck:Nat} {Mn d:Dir} (hS:St w0 X w M) (hi:M[i]?=some (.blk g (.map es ck))) (hE:bD kyE (vlE gs) es ck Mn) (hD:dB Ent.name Mn d) (c:ChM):
   Calls Tryz.prog 79 #[.map (some g),.agg (chC gs c).toArray] w fun e w'=>e=.returned (.tuple #[])∧∃es' ck' Mn',bD kyE (vlE gs) es' ck' Mn'∧dB Ent.name Mn' (mkD d c)∧St w0 X w' (M.set i (.blk g (.map es' ck'))):=by
 have him:=(List.getElem?_eq_some_iff.1 hi).1
 apply u9
 obtain ⟨g3,w1,r1,h1⟩:=hS.b7 (P:=Tryz.prog) 164 (chC gs c)
 have hi1:∀y:Res,(M++ [y])[i]?=some (.blk g (.map es ck)):=fun y=>by rw [List.getElem?_append_left him];exact hi
 have hg1:w1.heap[g]?=some (.map es ck):=h1.holds i _ (hi1 _)
 have ldT:∀ {w'':World} {M':List Res},St w0 X w'' (M'++ [Res.arr g3 164 (chC gs c)])→(Instr.loadAt 9 (.pointer (some ⟨g3,2,none⟩))).run Tryz.prog w''=.ok (aJ c.to) w''∧(Instr.loadAt 9 (.pointer (some ⟨g3,1,none⟩))).run Tryz.prog w''=.ok (aJ c.fr) w'':=fun h=>
   ⟨h.ldL (o:=2) jm (DD _) rfl rfl,h.ldL (o:=1) jm (DD _) rfl rfl⟩
 have ldM:(Instr.loadAt 162 (.pointer (some ⟨g3,0,none⟩))).run Tryz.prog w1=.ok (match c.made with | some i=>nM gs i | none=>.pointer none) w1:=h1.ldL (o:=0) jm (pfA _) rfl rfl
 have setM:∀ {w'':World} {o:Obj},St w0 X w'' ((M++ [Res.arr g3 164 (chC gs c)]).set i (.blk g o))→St w0 X w'' (M.set i (.blk g o)++ [Res.arr g3 164 (chC gs c)]):=fun h=>by
   rw [List.set_append_left _ _ him] at h;exact h
 cases hm:c.made with
 | some k=>
   rw [hm] at ldM
   obtain ⟨es',ck',rU,hE'⟩:=hE.wM (P:=Tryz.prog) (IX Mn) zq hg1 (⟨c.to,k⟩:Ent) trivial
   have h2:=setM (St.y2 h1 (i:=i) (o':=.map es' ck') (hi1 _))
   refine ⟨g3,w1,r1,_,ldM,_,vq .neq (.inr rfl) pfT _ _ (some ⟨gs.getD k 0,0,none⟩) w1,fun _=>⟨_,(ldT h1).1,_,ldM,_,rU,rfl,es',ck',_,hE',?_,St.pop h2⟩,fun h=>by simp at h⟩
   have:mkD d c=eD Ent.name d ⟨c.to,k⟩:=by unfold mkD;rw [hm]
   rw [this]
   exact hD.upd _
 | none=>
   rw [hm] at ldM
   have hlk:=NM hE hD hg1 c.fr true
   refine ⟨g3,w1,r1,_,ldM,_,vq .neq (.inr rfl) pfT _ _ none w1,fun h=>by simp at h,fun _=>⟨_,(ldT h1).2,_,_,w1,hlk,fun hno=>?_,fun hyes=>?_⟩⟩
   · have hf:findD d c.fr=none:=by
       cases hq:findD d c.fr with
       | none=>rfl
       | some e=>rw [hq] at hno;simp at hno
     have:mkD d c=d:=by unfold mkD;rw [hm];simp only [hf]
     rw [this]
     refine ⟨rfl,es,ck,Mn,hE,hD,?_⟩
     have e:M.set i (.blk g (.map es ck))=M:=by
       obtain ⟨h1,h2⟩:=List.getElem?_eq_some_iff.1 hi
       rw [←h2,List.set_getElem_self]
     rw [e]
     exact St.pop h1
   · obtain ⟨e,hf⟩:∃e,findD d c.fr=some e:=by
       cases hq:findD d c.fr with
       | none=>rw [hq] at hyes;simp at hyes
       | some e=>exact ⟨e,rfl⟩
     have hfnd:∃j,dQ Ent.name Mn c.fr=some (j,e):=by
       have h:=hD.find c.fr
       have hf':dr Ent.name d c.fr=some e:=hf
       rw [hf'] at h
       obtain ⟨⟨j,e'⟩,h1,h2⟩:=Option.map_eq_some_iff.1 h
       exact ⟨j,by rw [h1];simp only at h2;rw [h2]⟩
     obtain ⟨j,hj⟩:=hfnd
     obtain ⟨es',rD,hD1,_⟩:=hE.GD (P:=Tryz.prog) (IX Mn) zq hg1 (id:=c.fr) trivial #[149,9] rfl 0
     obtain ⟨_,hE'⟩:=hD1 j e hj
     have hD':=hD.del hj
     have h2:=setM (St.y2 h1 (i:=i) (o':=.map es' ck) (hi1 _))
     have hi2:(M.set i (.blk g (.map es' ck))++ [Res.arr g3 164 (chC gs c)])[i]?=some (.blk g (.map es' ck)):=by
       rw [List.getElem?_append_left (by simpa using him),List.getElem?_set_self him]
     have hval:((some e).map (vlE gs)).getD (.pointer none)=nM gs e.file:=rfl
     rw [hf,hval]
     have ldTo:=(ldT h2).1
     refine ⟨_,(ldT h1).2,_,_,rD,_,ldTo,fun w'=>∃es2 ck2 Mn2,bD kyE (vlE gs) es2 ck2 Mn2∧dB Ent.name Mn2 (mkD d c)∧St w0 X w' (M.set i (.blk g (.map es2 ck2))),⟨fun hne=>?_,fun heq=>?_⟩,?_⟩
     · rw [empty_eq] at hne
       have hto:¬c.to=[]:=by
         intro h0;rw [h0] at hne;simp at hne
       obtain ⟨es2,ck2,rU,hE2⟩:=hE'.wM (P:=Tryz.prog) (IX _) zq (h2.holds i _ hi2) (⟨c.to,e.file⟩:Ent) trivial
       have h3:=St.y2 h2 (i:=i) (o':=.map es2 ck2) hi2
       rw [List.set_append_left _ _ (by simpa using him),List.set_set] at h3
       refine ⟨_,ldTo,_,rU,es2,ck2,_,hE2,?_,St.pop h3⟩
       have:mkD d c=eD Ent.name (eT Ent.name d c.fr) ⟨c.to,e.file⟩:=by unfold mkD;rw [hm];simp only [hf,if_neg hto]
       rw [this]
       exact hD'.upd _
     · rw [empty_eq] at heq
       have hto:c.to=[]:=List.eq_nil_of_length_eq_zero (by simpa using heq)
       refine ⟨es',ck,_,hE',?_,St.pop h2⟩
       have:mkD d c=eT Ent.name d c.fr:=by unfold mkD;rw [hm];simp only [hf,if_pos hto]
       rw [this]
       exact hD'
     · rintro w6 ⟨es2,ck2,Mn2,h1,h2,h3⟩
       exact ⟨rfl,es2,ck2,Mn2,h1,h2,h3⟩

theorem Sx.St.NZ {P:Program} {w0 w:World} {X:List Nat} {M:List Res} (h:St w0 X w M) {T n:Nat} {z v:List Value} (hz:∀w,(zeroValue T).run P w=.ok (.agg z.toArray) w) (hS:∀w,(sizeOf T).run P w=.ok n w) (hzl:z.length=n) (hv:v.length=n) (h1:∀u∈v,u.oneCell'=true):
   ∃g w1 w2,(Instr.alloc T true (.tuple #[])).run P w=.ok (.pointer (some ⟨g,0,none⟩)) w1∧(Instr.storeAt T (.pointer (some ⟨g,0,none⟩)) (.agg v.toArray)).run P w1=.ok () w2∧St w0 X w2 (M++ [.arr g T v]):=by
 obtain ⟨g,w1,r1,h2⟩:=h.az hz
 obtain ⟨w2,r2,h3⟩:=h2.stA (i:=M.length) (v:=v) jm (hS _) hzl hv h1
 rw [List.set_append_right _ _ (Nat.le_refl _),Nat.sub_self] at h3
 exact ⟨g,w1,w2,r1,r2,h3⟩

theorem chZ (w:World):(zeroValue 164).run Tryz.prog w=.ok (.agg [Value.pointer none,aJ [],aJ []].toArray) w:=Tryz.zeroValue164 w
theorem HX (w:World):(sizeOf 164).run Tryz.prog w=.ok 3 w:=Tryz.sizeOf164 w
theorem Lr (w:World):(isAgg 164).run Tryz.prog w=.ok true w:=Tryz.isAgg164 w

theorem DOk.change {p:DP} (hp:DOk m p) (c:ChM) (hc:c.made=none) (hto:c.to=[]∨cN c.to=true) {es:Array MapEntry} {ck:Nat} {Mn:Dir} (hE:bD kyE (vlE p.ps) es ck Mn) (hD:dB Ent.name Mn (mkD m.now c)) (ca:Option Addr) (cc:Nat):DOk (iS m c) { p with esn:=es,ckn:=ck,Mn:=Mn,ca:=ca,cc:=cc } :=by
 have hn:=hp.wf.dZ
 have hok:fE m.files.length (mkD m.now c):=by
   unfold mkD
   rw [hc]
   cases hf:findD m.now c.fr with
   | none=>exact hn
   | some e=>
     obtain ⟨h1,h2⟩:=eE hf
     simp only
     split
     · exact hn.del _
     · rename_i hne
       refine (hn.del c.fr).ins (hn.ent e h1).1 (hto.resolve_left hne) (.inl ?_) fun x hx hxn hfe=>?_
       · have:=vu hf;have:=hn.len;omega
       · obtain ⟨h3,h4⟩:=lP.1 hx
         have:=hn.inj' h3 h1 hfe
         rw [this] at h4
         exact h4 h2
 exact ⟨hp.wf.snoc (Nat.le_refl _) hp.wf.syn (fun i hi=>by rw [hc] at hi;cases hi) hok,hp.files,hp.arm,hp.bW,hE,hD,hp.maps,hp.iss⟩

theorem St.Mh {p:DP} {c:ChM} {vb:Option Addr} {vd:Nat} {w2:World}
   (h2:St w0 X w2 (((dL gd m p++DR p.FL N).set 3 (.row 164 3 (.slice vb (m.chs.length+1) vd) (m.chs.length+1) (m.chs.flatMap (chC p.ps)++chC p.ps c))).set 0 (.arr gd 152 ((iR m p).set 8 (.slice vb (m.chs.length+1) vd))))):
   St w0 X w2 (dL gd { m with chs:=m.chs++ [c] } { p with ca:=vb,cc:=vd } ++DR p.FL N):=by
 have el:(m.chs++ [c]).length=m.chs.length+1:=by simp
 have ef:(m.chs++ [c]).flatMap (chC p.ps)=m.chs.flatMap (chC p.ps)++chC p.ps c:=by simp
 unfold dL iR
 show St w0 X w2 (.arr gd 152 [_,_,_,_,_,_,_,_,.slice vb (m.chs++ [c]).length vd]:: .blk _ _:: .blk _ _:: .row _ _ (.slice vb (m.chs++ [c]).length vd) (m.chs++ [c]).length ((m.chs++ [c]).flatMap (chC p.ps))::_::_)
 simp only [el,ef]
 exact h2

set_option maxHeartbeats 1000000 in
theorem CL (a b:Nm) (h:ah w0 X w gd ps m N) (hb:m.steps<4611686018427387904) (hc:m.chs.length<1000000000):
   Calls Tryz.prog 190 #[.pointer (some ⟨gd,0,none⟩),aJ a,aJ b] w fun e w'=>e=.returned (bk (ey m a b).2)∧ah w0 X w' gd ps (ey m a b).1 N:=by
 obtain ⟨mI,hI⟩:=eI
 apply qG
 obtain ⟨g,w1,r1,h1⟩:=(St.start w).lit Hz [aJ a,aJ b] (by simp [Value.oneCell',aJ]) (by simp)
 have hD1:=h.same h1.chg
 refine ⟨_,_,_,w1,r1,(mQ _ _ _ [a,b] hD1 (h1.rd (i:=0) rfl) (by simp)).mono ?_⟩
 rintro e w2 ⟨rfl,rfl⟩
 refine ⟨_,rfl,_,au hI _ _ _,fun hne=>?_,fun hok=>?_⟩
 · obtain ⟨e,he⟩:=Option.isSome_iff_exists.1 hne
   have:ey m a b=(m,some e):=by simp only [ey,he]
   rw [this,he]
   exact ⟨rfl,hD1⟩
 have hrn:fP m [a,b]=none:=by simpa using hok
 have hgb:cN b=true:=by
   unfold fP at hrn
   split at hrn
   · cases hrn
   · split at hrn
     · rename_i hall;simp at hall;exact hall.2
     · cases hrn
 refine (iV a hD1).mono ?_
 rintro e w3 ⟨rfl,c3⟩
 have hD3:=hD1.same c3
 refine ⟨_,_,rfl,_,au hI _ _ _,fun hne=>?_,fun hok=>?_⟩
 · obtain ⟨e,he⟩:=Option.isSome_iff_exists.1 hne
   have:ey m a b=(m,some e):=by simp only [ey,hrn,he]
   rw [this,he]
   exact ⟨rfl,hD3⟩
 have hfn:bX m a=none:=by simpa using hok
 have hap:ey m a b=aU m fun m=>iS m ⟨none,a,b⟩:=by simp only [ey,hrn,hfn]
 refine (j8 hD3 hb).mono ?_
 rintro e w4 ⟨rfl,hD4⟩
 refine ⟨_,rfl,_,au hI _ _ _,fun hne=>?_,fun hok=>?_⟩
 · obtain ⟨e,he⟩:=Option.isSome_iff_exists.1 hne
   rw [hap]
   unfold aU
   rw [he]
   exact ⟨rfl,hD4⟩
 have hst:(bp m).2=none:=by simpa using hok
 have hres:ey m a b=(iS (bp m).1 ⟨none,a,b⟩,none):=by rw [hap];unfold aU;rw [hst]
 rw [hres]
 obtain ⟨m1,hm1⟩:∃m1,(bp m).1=m1:=⟨_,rfl⟩
 obtain ⟨e1,e2,e3,e4,_⟩:=iQ m
 rw [hm1] at hD4 e1 e2 e3 e4 ⊢
 obtain ⟨p,hps,hp,hS⟩:=hD4
 obtain ⟨c,hcd⟩:∃c:ChM,(⟨none,a,b⟩:ChM)=c:=⟨_,rfl⟩
 have hcm:c.made=none:=by rw [←hcd]
 have hcv:(chC p.ps c)=[.pointer none,aJ a,aJ b]:=by rw [←hcd];rfl
 obtain ⟨g11,w5,w6,r5,r6,h6⟩:=hS.NZ (v:=chC p.ps c) chZ HX rfl (jT _ _) (sx _ _)
 rw [hcv] at r6
 refine ⟨_,F7 a b w4,g11,w5,r5,w6,r6,fun w'=>∃Y,St w0 X w' ((.arr gd 152 (iR m1 p)::Y)++ [.arr g11 164 (chC p.ps c)]),⟨_,h6.drew⟩,.map (some p.gn),?_,(chC p.ps c).toArray,?_,(Ag (i:=1) h6.drew rfl hp.oM hp.isn c).mono ?_⟩
 · rintro w' ⟨Y,hY⟩
   exact hY.ldL (i:=0) (o:=6) rfl (Bh _) rfl rfl
 · rintro w' ⟨Y,hY⟩
   exact hY.ldA (l:=chC p.ps c) jm (Lr _) (HX _) (jT _ _)
 rintro e w7 ⟨rfl,es',ck',Mn',hE',hD',h7⟩
 have hp7:({ p with esn:=es',ckn:=ck',Mn:=Mn' } :DP).ps=p.ps:=rfl
 obtain ⟨q,hq⟩:∃q,({ p with esn:=es',ckn:=ck',Mn:=Mn' } :DP)=q:=⟨_,rfl⟩
 have h7:St w0 X w7 ((dL gd m1 q++DR q.FL N)++ [.arr g11 164 (chC p.ps c)]):=by rw [←hq];exact h7
 have hqps:q.ps=p.ps:=by rw [←hq];rfl
 have h7d:=h7.drew
 obtain ⟨g8,w8,vb,vd,w9,r8,r9,h9,h8⟩:=h7d.tP (i:=3) (ty:=150) chT rfl (chC p.ps c) (jT _ _) (by decide) (sx _ _) (by rw [e3];omega) (by simp only [maxLen];rw [e3];omega)
 obtain ⟨w10,r10,h10⟩:=h9.stL (i:=0) (o:=8) (off:=8) (T:=150) (v:=.slice vb (m1.chs.length+1) vd) rfl (Lb _) rfl (by simp [iR]) rfl
 have hlt:3<(dL gd m1 q++DR q.FL N).length:=by simp only [dL,List.length_append,List.length_cons];omega
 have h9':=h9
 have h8':=h8
 rw [List.set_append_left _ _ hlt] at h9'
 refine ⟨rfl,fun w'=>∃Y,St w0 X w' ((.arr gd 152 (iR m1 p)::Y)++ [.arr g11 164 (chC p.ps c)]),fun _ h=>h,?_,fun w'=>∃Y,St w0 X w' ((.arr gd 152 (iR m1 q)::Y)++ [.arr g11 164 (chC p.ps c)]),⟨_,h7d⟩,_,_,_,fun w' ⟨Y,hY⟩=>hY.ldL (i:=0) (o:=8) rfl (Na _) rfl rfl,(chC p.ps c).toArray,fun w' ⟨Y,hY⟩=>hY.ldA (l:=chC p.ps c) jm (Lr _) (HX _) (jT _ _),_,_,_,w8,r8,fun w'=>∃Y,St w0 X w' ((.arr gd 152 (iR m1 q)::Y)++ [.arr g11 164 (chC p.ps c)]),fun _ h=>h,⟨_,h8⟩,vb,_,vd,w9,r9,fun w'=>∃Y,St w0 X w' ((.arr gd 152 (iR m1 q)::Y)++ [.arr g11 164 (chC p.ps c)]),fun _ h=>h,⟨_,h9'⟩,w10,r10,rfl,?_⟩
 · rw [←hq] at h7
   exact ⟨_,h7⟩
 · have hok:=hp.change c hcm (.inr (by rw [←hcd];exact hgb)) hE' hD' vb vd
   refine ⟨{ p with esn:=es',ckn:=ck',Mn:=Mn',ca:=vb,cc:=vd },hps,?_,?_⟩
   · rw [hcd];exact hok
   · rw [hcd]
     have hX:St w0 X w10 ((((dL gd m1 q++DR q.FL N).set 3 (.row 164 3 (.slice vb (m1.chs.length+1) vd) (m1.chs.length+1) (m1.chs.flatMap (chC q.ps)++chC q.ps c))).set 0 (.arr gd 152 ((iR m1 q).set 8 (.slice vb (m1.chs.length+1) vd))))++ [.arr g11 164 (chC p.ps c)]):=by
       rw [hqps]
       rw [hqps] at h10
       exact h10
     have hY:=St.Mh (m:=m1) (p:=q) (c:=c) (gd:=gd) (N:=N) (vb:=vb) (vd:=vd) (St.pop hX)
     rw [←hq] at hY
     exact hY

end

end Go.Proofs.YtpmhjnhgpplmnaaGreatDoor
end

section
namespace Go.Proofs.YtpmhjnhgpplmnaaGreatDoor
open Go Sx
set_option maxRecDepth 8000

section
variable {w0 w w':World} {X:List Nat} {N N':List Res} {gd:Nat} {ps:List Nat} {m:af}

set_option maxHeartbeats 1000000 in
theorem lC (a:Nm) (h:ah w0 X w gd ps m N) (hb:m.steps<4611686018427387904) (hc:m.chs.length<1000000000):
   Calls Tryz.prog 89 #[.pointer (some ⟨gd,0,none⟩),aJ a] w fun e w'=>e=.returned (bk (aL m a).2)∧ah w0 X w' gd ps (aL m a).1 N:=by
 obtain ⟨mI,hI⟩:=eI
 apply pX
 refine (iV a h).mono ?_
 rintro e w3 ⟨rfl,c3⟩
 have hD3:=h.same c3
 refine ⟨_,_,rfl,_,au hI _ _ _,fun hne=>?_,fun hok=>?_⟩
 · obtain ⟨e,he⟩:=Option.isSome_iff_exists.1 hne
   have:aL m a=(m,some e):=by simp only [aL,he]
   rw [this,he]
   exact ⟨rfl,hD3⟩
 have hfn:bX m a=none:=by simpa using hok
 have hap:aL m a=aU m fun m=>iS m ⟨none,a,[]⟩:=by simp only [aL,hfn]
 refine (j8 hD3 hb).mono ?_
 rintro e w4 ⟨rfl,hD4⟩
 refine ⟨_,rfl,_,au hI _ _ _,fun hne=>?_,fun hok=>?_⟩
 · obtain ⟨e,he⟩:=Option.isSome_iff_exists.1 hne
   rw [hap]
   unfold aU
   rw [he]
   exact ⟨rfl,hD4⟩
 have hst:(bp m).2=none:=by simpa using hok
 have hres:aL m a=(iS (bp m).1 ⟨none,a,[]⟩,none):=by rw [hap];unfold aU;rw [hst]
 rw [hres]
 obtain ⟨m1,hm1⟩:∃m1,(bp m).1=m1:=⟨_,rfl⟩
 obtain ⟨e1,e2,e3,e4,_⟩:=iQ m
 rw [hm1] at hD4 e1 e2 e3 e4 ⊢
 obtain ⟨p,hps,hp,hS⟩:=hD4
 obtain ⟨c,hcd⟩:∃c:ChM,(⟨none,a,[]⟩:ChM)=c:=⟨_,rfl⟩
 have hcm:c.made=none:=by rw [←hcd]
 have hcv:(chC p.ps c)=[.pointer none,aJ a,aJ []]:=by rw [←hcd];rfl
 obtain ⟨g11,w5,w6,r5,r6,h6⟩:=hS.NZ (v:=chC p.ps c) chZ HX rfl (jT _ _) (sx _ _)
 rw [hcv] at r6
 refine ⟨_,HE a w4,g11,w5,r5,w6,r6,fun w'=>∃Y,St w0 X w' ((.arr gd 152 (iR m1 p)::Y)++ [.arr g11 164 (chC p.ps c)]),⟨_,h6.drew⟩,.map (some p.gn),?_,(chC p.ps c).toArray,?_,(Ag (i:=1) h6.drew rfl hp.oM hp.isn c).mono ?_⟩
 · rintro w' ⟨Y,hY⟩
   exact hY.ldL (i:=0) (o:=6) rfl (Bh _) rfl rfl
 · rintro w' ⟨Y,hY⟩
   exact hY.ldA (l:=chC p.ps c) jm (Lr _) (HX _) (jT _ _)
 rintro e w7 ⟨rfl,es',ck',Mn',hE',hD',h7⟩
 have hp7:({ p with esn:=es',ckn:=ck',Mn:=Mn' } :DP).ps=p.ps:=rfl
 obtain ⟨q,hq⟩:∃q,({ p with esn:=es',ckn:=ck',Mn:=Mn' } :DP)=q:=⟨_,rfl⟩
 have h7:St w0 X w7 ((dL gd m1 q++DR q.FL N)++ [.arr g11 164 (chC p.ps c)]):=by rw [←hq];exact h7
 have hqps:q.ps=p.ps:=by rw [←hq];rfl
 have h7d:=h7.drew
 obtain ⟨g8,w8,vb,vd,w9,r8,r9,h9,h8⟩:=h7d.tP (i:=3) (ty:=150) chT rfl (chC p.ps c) (jT _ _) (by decide) (sx _ _) (by rw [e3];omega) (by simp only [maxLen];rw [e3];omega)
 obtain ⟨w10,r10,h10⟩:=h9.stL (i:=0) (o:=8) (off:=8) (T:=150) (v:=.slice vb (m1.chs.length+1) vd) rfl (Lb _) rfl (by simp [iR]) rfl
 have hlt:3<(dL gd m1 q++DR q.FL N).length:=by simp only [dL,List.length_append,List.length_cons];omega
 have h9':=h9
 rw [List.set_append_left _ _ hlt] at h9'
 refine ⟨rfl,fun w'=>∃Y,St w0 X w' ((.arr gd 152 (iR m1 p)::Y)++ [.arr g11 164 (chC p.ps c)]),fun _ h=>h,?_,fun w'=>∃Y,St w0 X w' ((.arr gd 152 (iR m1 q)::Y)++ [.arr g11 164 (chC p.ps c)]),⟨_,h7d⟩,_,_,_,fun w' ⟨Y,hY⟩=>hY.ldL (i:=0) (o:=8) rfl (Na _) rfl rfl,(chC p.ps c).toArray,fun w' ⟨Y,hY⟩=>hY.ldA (l:=chC p.ps c) jm (Lr _) (HX _) (jT _ _),_,_,_,w8,r8,fun w'=>∃Y,St w0 X w' ((.arr gd 152 (iR m1 q)::Y)++ [.arr g11 164 (chC p.ps c)]),fun _ h=>h,⟨_,h8⟩,vb,_,vd,w9,r9,fun w'=>∃Y,St w0 X w' ((.arr gd 152 (iR m1 q)::Y)++ [.arr g11 164 (chC p.ps c)]),fun _ h=>h,⟨_,h9'⟩,w10,r10,rfl,?_⟩
 · rw [←hq] at h7
   exact ⟨_,h7⟩
 · have hok:=hp.change c hcm (.inl (by rw [←hcd])) hE' hD' vb vd
   refine ⟨{ p with esn:=es',ckn:=ck',Mn:=Mn',ca:=vb,cc:=vd },hps,?_,?_⟩
   · rw [hcd];exact hok
   · rw [hcd]
     have hX:St w0 X w10 ((((dL gd m1 q++DR q.FL N).set 3 (.row 164 3 (.slice vb (m1.chs.length+1) vd) (m1.chs.length+1) (m1.chs.flatMap (chC q.ps)++chC q.ps c))).set 0 (.arr gd 152 ((iR m1 q).set 8 (.slice vb (m1.chs.length+1) vd))))++ [.arr g11 164 (chC p.ps c)]):=by
       rw [hqps]
       rw [hqps] at h10
       exact h10
     have hY:=St.Mh (m:=m1) (p:=q) (c:=c) (gd:=gd) (N:=N) (vb:=vb) (vd:=vd) (St.pop hX)
     rw [←hq] at hY
     exact hY

structure NX (m:af) (p:DP):Prop where
 okn:fE m.files.length m.now
 Py:∀f∈m.files,f.syn≤f.data.length∧f.data.length≤1099511627776
 size:0≤m.size∧m.size≤67108864
 files:p.FL.map FR.m=m.files
 arm:∀k,m.arm=some k→p.av=(k:Int)∧k≤9223372036854775807
 bW:Fy m.bW p.fa p.fn p.fc p.F
 oM:bD kyE (vlE p.ps) p.esn p.ckn p.Mn
 isn:dB Ent.name p.Mn m.now
theorem DOk.mem {p:DP} (hp:DOk m p):NX m p:=⟨hp.wf.dZ,hp.wf.syn,hp.wf.size,hp.files,hp.arm,hp.bW,hp.oM,hp.isn⟩

end

end Go.Proofs.YtpmhjnhgpplmnaaGreatDoor
end

section
namespace Go.Proofs.YtpmhjnhgpplmnaaGreatDoor
open Go Sx
set_option maxRecDepth 8000

section
variable {w0 w w':World} {X:List Nat} {N N':List Res} {gd:Nat} {ps:List Nat} {m:af}

theorem Aq (n:Nm) (h:ah w0 X w gd ps m N):
   Calls Tryz.prog 57 #[.pointer (some ⟨gd,0,none⟩),aJ n] w fun e w'=>∃a k c,e=.returned (.tuple #[.slice a k c,bk (bX m n)])∧aS w w' a k c (jO m n):=by
 obtain ⟨mI,hI⟩:=eI
 apply s8
 refine (iV n h).mono ?_
 rintro e w1 ⟨rfl,c1⟩
 refine ⟨_,_,rfl,_,au hI _ _ _,fun hne=>?_,fun hok=>?_⟩
 · refine ⟨none,0,0,rfl,?_⟩
   have:jO m n=[]:=by unfold jO;rw [if_pos hne]
   rw [this]
   exact aS.after (aS.nil _) c1
 have hfn:bX m n=none:=by simpa using hok
 obtain ⟨p,hps,hp,hS⟩:=h.same c1
 obtain ⟨hil,_⟩:=pK hp.wf hfn
 obtain ⟨f,hf,hpg,hfm⟩:=hp.file hil
 have hptr:nM ps (cI m n)=.pointer (some ⟨f.g,0,none⟩):=by rw [←hps];show Value.pointer (some ⟨p.ps.getD _ 0,0,none⟩)=_;rw [hpg]
 obtain ⟨l1,l2,l3⟩:=St.x8 hS hf
 have hdl:f.data.length≤1099511627776:=by
   have:=hp.wf.syn (fileAt m.files (cI m n)) (by simp [fileAt,List.getD,hil])
   rw [hfm] at this
   exact this.2
 rw [if_pos hfn]
 refine ⟨f.g,0,hptr,_,_,_,l1,(mK _ _ _ _ _ l3 (by omega)).mono ?_⟩
 rintro e w2 ⟨a',c',rfl,h2⟩
 refine ⟨_,_,_,rfl,a',_,c',by rw [hfn];rfl,?_⟩
 have:jO m n=f.data:=by unfold jO;rw [if_neg (by rw [hfn];simp),hfm]
 rw [this]
 exact aS.after h2 c1

theorem Dw (n:Nm) (i k:Int) (hi: -9223372036854775808≤i∧i≤9223372036854775807) (hk: -9223372036854775808≤k∧k≤9223372036854775807) (h:ah w0 X w gd ps m N):
   Calls Tryz.prog 138 #[.pointer (some ⟨gd,0,none⟩),aJ n,.int .i64 i,.int .i64 k] w fun e w'=>∃a u c,e=.returned (.tuple #[.slice a u c,bk (gM m n i k)])∧aS w w' a u c (eV m n i k):=by
 obtain ⟨mI,hI⟩:=eI
 apply qd
 refine (iV n h).mono ?_
 rintro e w1 ⟨rfl,c1⟩
 refine ⟨_,_,rfl,_,au hI _ _ _,fun hne=>?_,fun hok=>?_⟩
 · obtain ⟨e,he⟩:=Option.isSome_iff_exists.1 hne
   have h1:gM m n i k=some e:=by unfold gM;rw [he]
   have h2:eV m n i k=[]:=by unfold eV;rw [if_pos (by rw [h1];rfl)]
   rw [h1,h2,he]
   exact ⟨none,0,0,rfl,aS.after (aS.nil _) c1⟩
 have hfn:bX m n=none:=by simpa using hok
 obtain ⟨p,hps,hp,hS⟩:=h.same c1
 obtain ⟨hil,_⟩:=pK hp.wf hfn
 obtain ⟨f,hf,hpg,hfm⟩:=hp.file hil
 have hptr:nM ps (cI m n)=.pointer (some ⟨f.g,0,none⟩):=by rw [←hps];show Value.pointer (some ⟨p.ps.getD _ 0,0,none⟩)=_;rw [hpg]
 obtain ⟨l1,l2,l3⟩:=St.x8 hS hf
 have hdl:f.data.length≤1099511627776:=by
   have:=hp.wf.syn (fileAt m.files (cI m n)) (by simp [fileAt,List.getD,hil])
   rw [hfm] at this
   exact this.2
 have hrE:gM m n i k=if nW f.data i k then some 7 else none:=by unfold gM;rw [hfn];simp only [hfm]
 rw [if_pos hfn]
 refine ⟨fun x w'=>x=nW f.data i k∧w'=w1,⟨fun hneg=>⟨?_,rfl⟩,fun hpos=>⟨f.g,0,hptr,_,_,_,l1,fun hgt=>⟨?_,rfl⟩,fun hle=>⟨f.g,0,hptr,_,_,_,l1,?_,rfl⟩⟩⟩,?_⟩
 · unfold nW;rw [hneg];rfl
 · unfold nW;rw [hpos,hgt];rfl
 · unfold nW
   simp only [Bool.or_eq_false_iff,decide_eq_false_iff_not] at hpos hle
   rw [wrap_i64 (by omega) (by omega),decide_eq_false hpos.1,decide_eq_false hpos.2,decide_eq_false hle];rfl
 · rintro x w2 ⟨rfl,rfl⟩
   refine ⟨fun hbad=>?_,fun hgd=>?_⟩
   · have h1:gM m n i k=some 7:=by rw [hrE,if_pos hbad]
     have h2:eV m n i k=[]:=by unfold eV;rw [if_pos (by rw [h1];rfl)]
     rw [h1,h2]
     exact ⟨none,0,0,rfl,aS.after (aS.nil _) c1⟩
   · have h1:gM m n i k=none:=by rw [hrE,if_neg (by rw [hgd];simp)]
     have h2:eV m n i k=(f.data.drop i.toNat).take k.toNat:=by unfold eV;rw [if_neg (by rw [h1];simp),hfm]
     rw [h1,h2]
     unfold nW at hgd
     simp only [Bool.or_eq_false_iff,decide_eq_false_iff_not] at hgd
     obtain ⟨⟨⟨g1,g2⟩,g3⟩,g4⟩:=hgd
     have wr:IntKind.wrap .i64 (i+k)=i+k:=wrap_i64 (by omega) (by omega)
     have hle:=l3.le
     refine ⟨f.g,0,hptr,_,_,_,l1,by omega,by rw [wr];omega,by rw [wr];omega,fun a' hsub=>?_⟩
     have hlt:(IntKind.wrap .i64 (i+k)).toNat=i.toNat+k.toNat:=by rw [wr];omega
     have hs:=Rd.sub l3 hsub (hh:=i.toNat+k.toNat) (by omega) (by omega) (by omega) (Nat.le_refl _)
     have e2:((bv f.data).drop (i.toNat*1)).take ((i.toNat+k.toNat-i.toNat)*1)=bv ((f.data.drop i.toNat).take k.toNat):=by simp [fV,dc]
     rw [e2] at hs
     rw [hlt]
     refine (mK _ _ _ _ _ hs (by omega)).mono ?_
     rintro e w3 ⟨a3,c3,rfl,h3⟩
     exact ⟨_,_,_,rfl,a3,_,c3,rfl,aS.after h3 c1⟩

theorem Ff (h:ah w0 X w gd ps m N):Calls Tryz.prog 61 #[.pointer (some ⟨gd,0,none⟩)] w fun e w'=>e=.returned (.int .i64 (m.steps:Int))∧w'=w:=by
 obtain ⟨p,hps,hp,hS⟩:=h
 apply rJ
 exact ⟨_,ah.cell hS (i:=0) (jQ _) rfl,rfl,rfl⟩
theorem uz (h:ah w0 X w gd ps m N):Calls Tryz.prog 64 #[.pointer (some ⟨gd,0,none⟩)] w fun e w'=>e=.returned (.bool m.down)∧w'=w:=by
 obtain ⟨p,hps,hp,hS⟩:=h
 apply tI
 exact ⟨_,ah.cell hS (i:=1) (JS _) rfl,rfl,rfl⟩

abbrev zv (l:List Int):List Value:=l.map (Value.int .i64)
theorem O1:gF Tryz.prog 29 3 1 8 (.int .i64 0):=⟨by kernel_rfl,⟨Tryz.t3,by kernel_rfl,by kernel_rfl,by kernel_rfl,by kernel_rfl⟩,rfl,by decide⟩

theorem F6:Tryz.prog.built 152=fun parts=>Instr.fill (fun i=>(#[(0,5),(5,1),(6,1),(7,1),(8,1)]:Array (Nat×Nat))[i]?) #[.int .i64 0,.bool false,.bool false,.int .i64 0,.slice none 0 0,.int .i64 0,.map none,.map none,.slice none 0 0] parts:=by kernel_rfl
theorem F4 (s:Int) (g1 g2:Nat) (w:World):(Instr.build 152 #[(1,.int .i64 s),(2,.map (some g1)),(3,.map (some g2))]).run Tryz.prog w=.ok (.agg #[.int .i64 0,.bool false,.bool false,.int .i64 0,.slice none 0 0,.int .i64 s,.map (some g1),.map (some g2),.slice none 0 0]) w:=by
 apply run_build
 rw [F6]
 show Instr.fill _ _ [(1,_),(2,_),(3,_)]=_
 rw [aA (off:=5) (sz:=1) rfl rfl (by simp),aA (off:=6) (sz:=1) rfl rfl (by simp [Value.cells]),aA (off:=7) (sz:=1) rfl rfl (by simp [Value.cells])]
 rfl

theorem GG {s:Int} (h:0≤s∧s≤67108864):WFD (jH s):=
 ⟨rfl,fun k=>by show fE _ (replay [] (([]:List ChM).take k));rw [List.take_nil];exact Hj _,by simp [jH],by simp [jH],h⟩

theorem sE (s:Int) (w:World):Calls Tryz.prog 55 #[.int .i64 s] w fun e w'=>(s<0∨67108864<s)∧e=.returned (.tuple #[.pointer none,bk (some 7)])∧w'=w∨¬(s<0∨67108864<s)∧∃gd,e=.returned (.tuple #[.pointer (some ⟨gd,0,none⟩),bk none])∧ah w [] w' gd [] (jH s) []:=by
 apply CD
 refine ⟨fun h=>.inl ⟨by simpa using h,rfl,rfl⟩,fun h=>?_⟩
 have hs:¬(s<0∨67108864<s):=by simp at h;omega
 have h1:=(St.start w).add (r:=.blk w.heap.size (.map #[] 0)) (Chg.alloc _ _) (heap_alloc_new w _) (by simp [Res.fp])
 obtain ⟨w1,hw1⟩:∃w1,w.alloc (.map #[] 0)=w1:=⟨_,rfl⟩
 rw [hw1] at h1
 have h2:=h1.add (r:=.blk w1.heap.size (.map #[] 0)) (Chg.alloc _ _) (heap_alloc_new w1 _) (by simp [Res.fp])
 obtain ⟨g,w3,r3,h3⟩:=h2.b7 (P:=Tryz.prog) 152 [.int .i64 0,.bool false,.bool false,.int .i64 0,.slice none 0 0,.int .i64 s,.map (some w.heap.size),.map (some w1.heap.size),.slice none 0 0]
 refine ⟨.map (some w.heap.size),w1,by rw [←hw1];rfl,.map (some w1.heap.size),_,rfl,_,F4 s _ _ _,g,w3,r3,.inr ⟨hs,g,rfl,?_⟩⟩
 have h4:=(h3.b8 164 3).add (r:=Res.emp) (Chg.refl _ _) (Res.IZ _) (by simp [Res.emp,Res.fp,Value.ownBlock])
 refine ⟨{ av:=0,fa:=none,fn:=0,fc:=0,gn:=w.heap.size,gs:=w1.heap.size,ca:=none,cc:=0,FL:=[],F:=Res.emp,esn:= #[],ckn:=0,Mn:=[],ess:= #[],cks:=0,Ms:=[] },rfl,⟨GG (by omega),rfl,fun k hk=>(by cases hk),⟨rfl,Nat.le_refl _,.inl rfl,by simp [jH]⟩,bD.nil _ _,dB.nil,bD.nil _ _,dB.nil⟩,?_⟩
 refine h4.perm ?_
 show List.Perm [_,_,_,_,_] [_,_,_,_,_]
 refine List.Perm.trans (l₂:=[.blk w.heap.size (.map #[] 0),.arr g 152 [.int .i64 0,.bool false,.bool false,.int .i64 0,.slice none 0 0,.int .i64 s,.map (some w.heap.size),.map (some w1.heap.size),.slice none 0 0],.blk w1.heap.size (.map #[] 0),.row 164 3 (.slice none 0 0) 0 [],Res.emp]) (.cons _ (.swap _ _ _)) (.swap _ _ _)

end

end Go.Proofs.YtpmhjnhgpplmnaaGreatDoor
end

section
namespace Go.Proofs.YtpmhjnhgpplmnaaGreatDoor
open Go.Shelf
def Af:Go.Shelf.Ren:=⟨fun | 7=>174 | 10=>255 | n=>n,fun | 23=>149 | 26=>9 | 3=>162 | 28=>262 | 0=>0 | 27=>261 | 33=>75 | 4=>4 | n=>n,fun | n=>n⟩
theorem Mt:Go.Proofs.SlLaysZ.n7 Tryz.prog Af:= {
 mixed:=by kernel_rfl
 f7:=⟨Tryz.f174.name,by decide,Tryz.func174.trans (congrArg some (by kernel_rfl))⟩
 f10:=⟨Tryz.f255.name,by decide,Tryz.func255.trans (congrArg some (by kernel_rfl))⟩
 t0:=Tryz.underlying0
 a0:=Tryz.isAgg0
 z0:=Tryz.sizeOf0
 v0:=Tryz.zeroValue0
 t4:=Tryz.underlying4
 a4:=Tryz.isAgg4
 z4:=Tryz.sizeOf4
 v4:=Tryz.zeroValue4
 t23:=Tryz.underlying149
 a23:=Tryz.isAgg149
 z23:=Tryz.sizeOf149
 v23:=Tryz.zeroValue149
 t26:=Tryz.underlying9
 a26:=Tryz.isAgg9
 z26:=Tryz.sizeOf9
 v26:=Tryz.zeroValue9
 t27:=Tryz.underlying261
 a27:=Tryz.isAgg261
 z27:=Tryz.sizeOf261
 v27:=Tryz.zeroValue261
 t28:=Tryz.underlying262
 a28:=Tryz.isAgg262
 z28:=Tryz.sizeOf262
 v28:=Tryz.zeroValue262
 t33:=Tryz.underlying75
 a33:=Tryz.isAgg75
 z33:=Tryz.sizeOf75
 v33:=Tryz.zeroValue75 }
def vY:Go.Shelf.Ren:=⟨fun | 6=>173 | 8=>253 | 9=>254 | 11=>311 | 13=>216 | 12=>312 | 23=>288 | 24=>274 | 14=>346 | 15=>347 | 16=>348 | 17=>349 | 18=>350 | 19=>351 | 20=>352 | 21=>353 | 22=>354 | 25=>370 | 26=>332 | 27=>333 | 28=>371 | 29=>372 | 30=>373 | 31=>379 | n=>n,fun | 26=>9 | 28=>262 | 24=>166 | 0=>0 | 3=>3 | 37=>299 | 48=>370 | 50=>42 | 4=>4 | 40=>376 | 39=>375 | 45=>73 | 5=>5 | 9=>9 | 51=>434 | 55=>438 | 57=>467 | 58=>315 | 33=>75 | n=>n,fun | n=>n⟩
theorem L3:Go.Proofs.SlLaysZ.n6 Tryz.prog vY:= {
 mixed:=by kernel_rfl
 f6:=⟨Tryz.f173.name,by decide,Tryz.func173.trans (congrArg some (by kernel_rfl))⟩
 f8:=⟨Tryz.f253.name,by decide,Tryz.func253.trans (congrArg some (by kernel_rfl))⟩
 f11:=⟨Tryz.f311.name,by decide,Tryz.func311.trans (congrArg some (by kernel_rfl))⟩
 t0:=Tryz.underlying0
 a0:=Tryz.isAgg0
 z0:=Tryz.sizeOf0
 v0:=Tryz.zeroValue0
 t24:=Tryz.underlying166
 a24:=Tryz.isAgg166
 z24:=Tryz.sizeOf166
 v24:=Tryz.zeroValue166
 t26:=Tryz.underlying9
 a26:=Tryz.isAgg9
 z26:=Tryz.sizeOf9
 v26:=Tryz.zeroValue9
 t28:=Tryz.underlying262
 a28:=Tryz.isAgg262
 z28:=Tryz.sizeOf262
 v28:=Tryz.zeroValue262
 i26:=by kernel_rfl }
def HG:Go.Shelf.Ren:=⟨fun | 6=>254 | 8=>216 | 9=>312 | 19=>288 | 20=>274 | 21=>346 | 22=>347 | 23=>348 | 24=>349 | 25=>350 | 26=>351 | 27=>352 | 28=>353 | 29=>354 | 36=>370 | 31=>332 | 32=>333 | 37=>371 | 38=>372 | 39=>373 | 41=>379 | n=>n,fun | 27=>166 | 29=>9 | 3=>3 | 32=>299 | 26=>166 | 0=>0 | 44=>370 | 46=>42 | 4=>4 | 36=>376 | 35=>375 | 41=>73 | 5=>5 | 9=>9 | 53=>434 | 57=>438 | 63=>467 | 64=>315 | n=>n,fun | n=>n⟩
theorem Mr:Go.Proofs.SlLaysM.n6 Tryz.prog HG:= {
 mixed:=by kernel_rfl
 f6:=⟨Tryz.f254.name,by decide,Tryz.func254.trans (congrArg some (by kernel_rfl))⟩
 f8:=Tryz.func216.trans (congrArg some (by kernel_rfl))
 f9:=⟨Tryz.f312.name,by decide,Tryz.func312.trans (congrArg some (by kernel_rfl))⟩
 f19:=Tryz.func288.trans (congrArg some (by kernel_rfl))
 f20:=Tryz.func274.trans (congrArg some (by kernel_rfl))
 f21:=⟨Tryz.f346.name,by decide,Tryz.func346.trans (congrArg some (by kernel_rfl))⟩
 f22:=⟨Tryz.f347.name,by decide,Tryz.func347.trans (congrArg some (by kernel_rfl))⟩
 f23:=⟨Tryz.f348.name,by decide,Tryz.func348.trans (congrArg some (by kernel_rfl))⟩
 f24:=⟨Tryz.f349.name,by decide,Tryz.func349.trans (congrArg some (by kernel_rfl))⟩
 f25:=⟨Tryz.f350.name,by decide,Tryz.func350.trans (congrArg some (by kernel_rfl))⟩
 f26:=⟨Tryz.f351.name,by decide,Tryz.func351.trans (congrArg some (by kernel_rfl))⟩
 f27:=⟨Tryz.f352.name,by decide,Tryz.func352.trans (congrArg some (by kernel_rfl))⟩
 f28:=⟨Tryz.f353.name,by decide,Tryz.func353.trans (congrArg some (by kernel_rfl))⟩
 f29:=⟨Tryz.f354.name,by decide,Tryz.func354.trans (congrArg some (by kernel_rfl))⟩
 f31:=Tryz.func332.trans (congrArg some (by kernel_rfl))
 f32:=Tryz.func333.trans (congrArg some (by kernel_rfl))
 f36:=⟨Tryz.f370.name,by decide,Tryz.func370.trans (congrArg some (by kernel_rfl))⟩
 f37:=⟨Tryz.f371.name,by decide,Tryz.func371.trans (congrArg some (by kernel_rfl))⟩
 f38:=⟨Tryz.f372.name,by decide,Tryz.func372.trans (congrArg some (by kernel_rfl))⟩
 f39:=⟨Tryz.f373.name,by decide,Tryz.func373.trans (congrArg some (by kernel_rfl))⟩
 f41:=⟨Tryz.f379.name,by decide,Tryz.func379.trans (congrArg some (by kernel_rfl))⟩
 t0:=Tryz.underlying0
 a0:=Tryz.isAgg0
 z0:=Tryz.sizeOf0
 v0:=Tryz.zeroValue0
 t3:=Tryz.underlying3
 a3:=Tryz.isAgg3
 z3:=Tryz.sizeOf3
 v3:=Tryz.zeroValue3
 t4:=Tryz.underlying4
 a4:=Tryz.isAgg4
 z4:=Tryz.sizeOf4
 v4:=Tryz.zeroValue4
 t5:=Tryz.underlying5
 a5:=Tryz.isAgg5
 z5:=Tryz.sizeOf5
 v5:=Tryz.zeroValue5
 t9:=Tryz.underlying9
 a9:=Tryz.isAgg9
 z9:=Tryz.sizeOf9
 v9:=Tryz.zeroValue9
 t26:=Tryz.underlying166
 a26:=Tryz.isAgg166
 z26:=Tryz.sizeOf166
 v26:=Tryz.zeroValue166
 t27:=Tryz.underlying166
 a27:=Tryz.isAgg166
 z27:=Tryz.sizeOf166
 v27:=Tryz.zeroValue166
 t29:=Tryz.underlying9
 a29:=Tryz.isAgg9
 z29:=Tryz.sizeOf9
 v29:=Tryz.zeroValue9
 t32:=Tryz.underlying299
 a32:=Tryz.isAgg299
 z32:=Tryz.sizeOf299
 v32:=Tryz.zeroValue299
 t35:=Tryz.underlying375
 a35:=Tryz.isAgg375
 z35:=Tryz.sizeOf375
 v35:=Tryz.zeroValue375
 t36:=Tryz.underlying376
 a36:=Tryz.isAgg376
 z36:=Tryz.sizeOf376
 v36:=Tryz.zeroValue376
 t41:=Tryz.underlying73
 a41:=Tryz.isAgg73
 z41:=Tryz.sizeOf73
 v41:=Tryz.zeroValue73
 t44:=Tryz.underlying370
 a44:=Tryz.isAgg370
 z44:=Tryz.sizeOf370
 v44:=Tryz.zeroValue370
 t46:=Tryz.underlying42
 a46:=Tryz.isAgg42
 z46:=Tryz.sizeOf42
 v46:=Tryz.zeroValue42
 t53:=Tryz.underlying434
 a53:=Tryz.isAgg434
 z53:=Tryz.sizeOf434
 v53:=Tryz.zeroValue434
 t57:=Tryz.underlying438
 a57:=Tryz.isAgg438
 z57:=Tryz.sizeOf438
 v57:=Tryz.zeroValue438
 t63:=Tryz.underlying467
 a63:=Tryz.isAgg467
 z63:=Tryz.sizeOf467
 v63:=Tryz.zeroValue467
 t64:=Tryz.underlying315
 a64:=Tryz.isAgg315
 z64:=Tryz.sizeOf315
 v64:=Tryz.zeroValue315 }
end Go.Proofs.YtpmhjnhgpplmnaaGreatDoor
end

section
namespace Go.Proofs.YtpmhjnhgpplmnaaGreatDoor
open Go Sx Go.RowKit Go.Maps Go.Sort Go.Shelf
set_option maxRecDepth 8000

theorem K4:∀l m:List UInt8,lexLt l m=true→l≤m
 | [],[],h=>by simp [lexLt] at h
 | [],_::_,_=>List.nil_le _
 | _::_,[],h=>by simp [lexLt] at h
 | a::l,b::m,h=>by
   rw [List.cons_le_cons_iff]
   simp only [lexLt] at h
   split at h
   · rename_i h1
     exact .inl (UInt8.lt_iff_toNat_lt.2 h1)
   · rename_i h1
     split at h
     · cases h
     · rename_i h2
       have:a=b:=UInt8.toNat_inj.1 (by omega)
       exact .inr ⟨this,K4 l m h⟩

theorem Fz {d:Dir} (h:gU Ent.name d) {ss:List (List UInt8)} (hp:ss.Perm (d.map Ent.name)):ss.mergeSort (fun x y=>decide (x≤y))=d.map Ent.name:=by
 rw [show ss.mergeSort (fun x y=>decide (x≤y))=(d.map Ent.name).mergeSort (fun x y=>decide (x≤y)) from mergeSort_of_perm hp]
 refine List.mergeSort_of_pairwise ?_
 rw [List.pairwise_map]
 exact List.Pairwise.imp (fun {a b} hab=>by simpa using K4 _ _ hab) h

def rP (_:Value):Option (DataW Unit×List MemPlace):=some (.nil,[])
theorem xA (e:Ent) (h:e.name.length≤64):keyOf Tryz.prog 9 (kyE e)=some (.string e.name):=by
 have h1:Tryz.prog.underlying 9=some .string:=Tryz.underlying9
 have h2:(⟨e.name.toArray⟩:ByteArray).size≤maxLen:=by show e.name.toArray.size≤_;simp [maxLen];omega
 simp only [keyOf,h1,kyE,aJ,mapKey]
 simp [h2]

theorem Fq {w:World} {g:Nat} {es:Array MapEntry} {ck:Nat} {gs:List Nat} {Mn d:Dir} (hE:bD kyE (vlE gs) es ck Mn) (hD:dB Ent.name Mn d) (hg:w.heap[g]?=some (.map es ck)) (hlen:Mn.length≤4096) (hn:∀e∈Mn,e.name.length≤64):
   ∃D:DataW Unit,w.ownsMap Tryz.prog 9 rP g 4096 D∧(strKeys D).Perm (Mn.map Ent.name)∧Maps.size D=Mn.length:=by
 have hsz:=hE.len
 have hrd:∀x∈es.toList,∃r∈Mn,x.key=kyE r∧WideElems.rd Tryz.prog 9 rP x=some (.string r.name,.nil):=by
   intro x hx
   obtain ⟨i,hi⟩:=List.getElem?_of_mem hx
   obtain ⟨r,h1,h2,h3⟩:=hE.at_ hi
   have hr:=List.mem_of_getElem? h1
   refine ⟨r,hr,h2,?_⟩
   unfold WideElems.rd
   rw [h2,xA r (hn r hr)]
   rfl
 have hkeys:es.toList.map (fun x=>x.key)=Mn.map kyE:=by
   have:=congrArg (List.map Prod.fst) hE.Bl
   rw [List.map_map,List.map_map] at this
   exact this
 have hnd:(Mn.map kyE).Nodup:=by
   have h1:Mn.Pairwise fun x y=>x.name≠y.name:=(hD.perm.pairwise_iff (fun {a b} (h:a.name≠b.name)=>h.symm)).2 (BU hD.asc)
   rw [List.Nodup,List.pairwise_map]
   refine h1.imp fun {a b} h e=>h ?_
   have:aJ a.name=aJ b.name:=e
   exact encStr_inj this
 have F:WideElems.Fit Tryz.prog 9 rP es ck:=⟨by rw [hsz];simp only [maxLen];omega,⟨hE.old,hE.born,by rw [hkeys];exact hnd⟩,fun x hx=>by obtain ⟨r,_,_,h⟩:=hrd x hx;exact ⟨_,h⟩⟩
 refine ⟨_,⟨es,ck,hg,F,by omega,rfl⟩,?_,?_⟩
 · show (((es.toList.map (WideElems.rg Tryz.prog 9 rP)).foldr DataW.insert []).map fun p=>strOf p.1).Perm _
   refine ((WideShapes.sorted_perm _).map _).trans (List.Perm.of_eq ?_)
   rw [List.map_map]
   have e1:es.toList.map ((fun p:Lit×DataW Unit=>strOf p.1)∘WideElems.rg Tryz.prog 9 rP)=es.toList.map fun x=>strOf ((keyOf Tryz.prog 9 x.key).getD (.bool false)):=by
     refine List.map_congr_left fun x hx=>?_
     obtain ⟨r,hr,hk,h⟩:=hrd x hx
     show strOf (WideElems.rg Tryz.prog 9 rP x).1=_
     rw [WideElems.rg,h,hk,xA r (hn r hr)]
     rfl
   rw [e1]
   have e2:es.toList.map (fun x=>strOf ((keyOf Tryz.prog 9 x.key).getD (.bool false)))=(es.toList.map fun x=>x.key).map fun k=>strOf ((keyOf Tryz.prog 9 k).getD (.bool false)):=by rw [List.map_map];rfl
   rw [e2,hkeys,List.map_map]
   refine List.map_congr_left fun r hr=>?_
   show strOf ((keyOf Tryz.prog 9 (kyE r)).getD (.bool false))=r.name
   rw [xA r (hn r hr)]
   rfl
 · show ((es.toList.map (WideElems.rg Tryz.prog 9 rP)).foldr DataW.insert []).length=_
   rw [(WideShapes.sorted_perm _).length_eq,List.length_map,Array.length_toList,hsz]

theorem Km (m:Nat):AnyZ.SortsIn Tryz.prog vY Fence.wide m:=
 ⟨fun blk off cap ss W hH hblk hsz=>callsIn_wide.2 (AnyM.slices_Sort_string Mr blk off cap ss W hH hblk hsz),
  fun p cap W=>callsIn_wide.2 (AnyM.slices_Sort_string_none Mr p cap W)⟩

def cw (m:af):List Nm:=m.now.map Ent.name

section
variable {w0 w w':World} {X:List Nat} {N N':List Res} {gd:Nat} {ps:List Nat} {m:af}

theorem HF {p:DP} (hp:NX m p) (hS:St w0 X w (dL gd m p++DR p.FL N)):
   Calls Tryz.prog 80 #[.pointer (some ⟨gd,0,none⟩)] w fun e w'=>∃a c,e=.returned (.slice a (cw m).length c)∧St w [] w' [.row 9 1 (.slice a (cw m).length c) (cw m).length ((cw m).map aJ)]:=by
 have hg:w.heap[p.gn]?=some (.map p.esn p.ckn):=hS.holds 1 _ rfl
 have hln:p.Mn.length≤4096:=by rw [hp.isn.perm.length_eq];exact hp.okn.len
 have hgood:∀e∈p.Mn,e.name.length≤64:=by
   intro e he
   have:=(hp.okn.ent e (hp.isn.perm.mem_iff.1 he)).2
   unfold cN at this
   simp only [Bool.and_eq_true,decide_eq_true_eq] at this
   omega
 obtain ⟨D,hown,hperm,hsz⟩:=Fq hp.oM hp.isn hg hln hgood
 apply tH
 have hbl:=hown.lt
 have hseq:SeqGives Fence.wide 2 Tryz.prog 255 #[.pointer (some ⟨w.heap.size,0,none⟩)] encStr (fun ss=>ss.Perm (strKeys D)) (Maps.size D) (w.alloc (.cells #[.map (some p.gn)] 149)):=
   AnyZ.keys_gives (ρ:=Af) { Mt with } Fence.wide _ trivial rfl (by omega) w.heap.size p.gn 4096 D _ (by simp) (by simp) (by
     obtain ⟨es,clock,hb,Ft,hs,hD⟩:=hown
     exact ⟨es,clock,(Below.heap_alloc _ _ p.gn hbl).trans hb,Ft,hs,hD⟩)
 have cK:Calls Tryz.prog 174 #[.map (some p.gn)] w fun e w'=>e=.returned (.func (.func 255) #[] #[.pointer (some ⟨w.heap.size,0,none⟩)])∧w'=w.alloc (.cells #[.map (some p.gn)] 149):=callsIn_wide.1 (AnyZ.keys_in Mt Fence.wide 5 trivial rfl (some p.gn) w)
 have cS:=AnyZ.sorted_in L3 Fence.wide 5 trivial trivial trivial trivial rfl (by omega) (Km _) (enters_of Tryz.func254 (by kernel_rfl) rfl) 255 #[.pointer (some ⟨w.heap.size,0,none⟩)] trivial (enters_of Tryz.func255 (by kernel_rfl) rfl) _ _ (by rw [hsz];simp only [maxLen];omega) (by rw [hsz];omega) _ hseq
 change CallsIn _ _ Tryz.prog 173 _ _ _ at cS
 refine ⟨_,hS.ldL (i:=0) (o:=6) rfl (Bh _) rfl rfl,cK.mono ?_⟩
 rintro e w1 ⟨rfl,rfl⟩
 refine ⟨_,rfl,(callsIn_wide.1 cS).mono ?_⟩
 rintro e w2 ⟨v,ss,rfl,hS',hrow,hnil,hb⟩
 have hss:ss.Perm (m.now.map Ent.name):=(hS'.trans hperm).trans (hp.isn.perm.map _)
 have hsort:=Fz hp.okn.asc hss
 have hlen:ss.length=(cw m).length:=by rw [hss.length_eq];rfl
 rw [hsort,hlen] at hrow
 have hb':Below w.heap.size w w2:=((Below.refl _ w).alloc (Nat.le_refl _) _).trans (hb.mono (by simp))
 have hrow':w2.ownsRow w.heap.size 9 1 v (cw m).length ((cw m).map aJ):=iC hrow (by simp)
 have hst:St w [] w2 [.row 9 1 v (cw m).length ((cw m).map aJ)]:=(St.start w).add (Chg.yU hb') (iC hrow' (Nat.zero_le _)) (fun k hk=>(World.ownsRow.lt hrow' k (by simpa [Res.fp] using hk)).1)
 rcases hrow'.2 with ⟨rfl,hz⟩ | ⟨g,cap,cur,rfl,_⟩
 · refine ⟨none,0,0,rfl,none,0,by rw [hz],?_⟩
   rw [hz] at hst ⊢
   exact hst
 · exact ⟨_,_,_,rfl,_,_,rfl,hst⟩

end

end Go.Proofs.YtpmhjnhgpplmnaaGreatDoor
end

section
namespace Go.Proofs.YtpmhjnhgpplmnaaGreatDoor
open Go Sx
set_option maxRecDepth 8000

theorem uu {fs:List cg} (h:∀f∈fs,f.syn≤f.data.length∧f.data.length≤1099511627776) (i:Nat):(fileAt fs i).syn≤(fileAt fs i).data.length∧(fileAt fs i).data.length≤1099511627776:=by
 by_cases hi:i<fs.length
 · rw [fileAt,List.getD,List.getElem?_eq_getElem hi]
   exact h _ (List.getElem_mem hi)
 · rw [fileAt,List.getD,List.getElem?_eq_none (by omega)]
   simp [iP]
section
variable {w0 w w':World} {X:List Nat} {N N':List Res} {gd:Nat} {ps:List Nat} {m:af}

end

theorem Sx.St.ldP {P:Program} {w0 w:World} {X:List Nat} {M:List Res} (h:St w0 X w M) {i g o n:Nat} {l xs:List Value} {T' T:TypeId} (hi:M[i]?=some (.arr g T' l)) (hA:(isAgg T).run P w=.ok true w) (hS:(sizeOf T).run P w=.ok n w) (hx:(l.drop o).take n=xs) (hl:xs.length=n):
   (Instr.loadAt T (.pointer (some ⟨g,o,none⟩))).run P w=.ok (.agg xs.toArray) w:=by
 have hr:=h.kP hi
 have hrange:w.rangeAt g o xs:=by
   intro k v hk
   have hk3:k<n:=by have:=(List.getElem?_eq_some_iff.1 hk).1;omega
   rw [←hx,List.getElem?_take,if_pos hk3,List.getElem?_drop] at hk
   have:=hr _ _ hk
   rw [Nat.zero_add] at this
   exact this
 have:=cA (P:=P) hrange
 rw [hl] at this
 simp [Instr.loadAt,Instr.sureAddr,loadVar,hA,hS,this]

end Go.Proofs.YtpmhjnhgpplmnaaGreatDoor
end

section
namespace Go.Proofs.YtpmhjnhgpplmnaaGreatDoor
open Go Sx
set_option maxRecDepth 8000

theorem Mi (l:List UInt8):(⟨l.toArray⟩:ByteArray).toList=l:=by rw [ByteArray.toList_eq]
theorem Pr (l m:List UInt8) (x y:Operand) (w:World):(dK .geq 9 x y (.string ⟨l.toArray⟩) (.string ⟨m.toArray⟩)).run Tryz.prog w=.ok (.bool (!lexLt l m)) w:=by
 have h3:(eqGuard .geq 9 x y (.string ⟨l.toArray⟩) (.string ⟨m.toArray⟩)).run Tryz.prog w=.ok () w:=rfl
 have h4:binOp .geq 9 (.string ⟨l.toArray⟩) (.string ⟨m.toArray⟩)=pure (.bool (!lexLt l m)):=by
   have:binOp .geq 9 (.string ⟨l.toArray⟩) (.string ⟨m.toArray⟩)=pure (.bool (!Op.bytesLess (⟨l.toArray⟩:ByteArray).toList (⟨m.toArray⟩:ByteArray).toList)):=by simp [binOp,Op.stringOp]
   rw [this,Mi,Mi,Ce]
 simp only [dK,Sem.run_bind,h3,Result.andThen_ok,h4,Sem.run_pure]

theorem snZ (w:World):(zeroValue 89).run Tryz.prog w=.ok (.agg ([aJ [],.int .i64 0,.int .i64 0,.int .i64 0]++bv (List.replicate 32 0)).toArray) w:=Tryz.zeroValue89 w
theorem snA (w:World):(isAgg 89).run Tryz.prog w=.ok true w:=Tryz.isAgg89 w
theorem snS (w:World):(sizeOf 89).run Tryz.prog w=.ok 36 w:=Tryz.sizeOf89 w
theorem pqZ (w:World):(zeroValue 91).run Tryz.prog w=.ok (.agg ([.int .i64 0,.int .i64 0,.int .i64 0]:List Value).toArray) w:=Tryz.zeroValue91 w
theorem pqA (w:World):(isAgg 91).run Tryz.prog w=.ok true w:=Tryz.isAgg91 w
theorem pqS (w:World):(sizeOf 91).run Tryz.prog w=.ok 3 w:=Tryz.sizeOf91 w
theorem seA (w:World):(isAgg 44).run Tryz.prog w=.ok true w:=Tryz.isAgg44 w
theorem seS (w:World):(sizeOf 44).run Tryz.prog w=.ok 5 w:=Tryz.sizeOf44 w
theorem ssA (w:World):(isAgg 25).run Tryz.prog w=.ok false w:=Tryz.isAgg25 w
theorem psA (w:World):(isAgg 45).run Tryz.prog w=.ok false w:=Tryz.isAgg45 w

set_option maxHeartbeats 4000000 in
theorem qL (C:bR) (sa:Option Addr) (sn sc:Nat) (pa:Option Addr) (pn pc:Nat) (w:World) (h:Bo w C sa sn sc pa pn pc):
   Calls Tryz.prog 38 #[.agg (bV C sa sn sc pa pn pc).toArray] w fun e w'=>e=.returned (bk (if aH C then none else some 28))∧Chg [] w w':=by
 obtain ⟨mI,hI⟩:=eI
 have hsn:C.snaps.length=sn:=h.snaps.num (by decide)
 have hpn:C.aj.length=pn:=h.aj.num (by decide)
 apply uY
 obtain ⟨g,w1,r1,k1⟩:=(St.start w).b7 (P:=Tryz.prog) 47 (bV C sa sn sc pa pn pc)
 let K:World→Prop:=fun w'=>St w [] w' [.arr g 47 (bV C sa sn sc pa pn pc)]
 have k1:K w1:=k1
 have ldI:∀ {w'} (o:Nat) (z:Int),(bV C sa sn sc pa pn pc)[o]?=some (.int .i64 z)→K w'→(Instr.loadAt 3 (.pointer (some ⟨g,o,none⟩))).run Tryz.prog w'=.ok (.int .i64 z) w':=fun o z hz h=>by
   have:=Sx.St.ldL h (i:=0) (o:=o) rfl (CI _) rfl hz
   exact this
 refine ⟨g,w1,r1,fun b w'=>b= !jL C∧K w',⟨_,ldI 0 _ rfl k1,fun h1=>⟨?_,k1⟩,fun h1=>⟨_,ldI 0 _ rfl k1,fun h2=>⟨?_,k1⟩,fun h2=>⟨_,ldI 1 _ rfl k1,fun h3=>⟨?_,k1⟩,fun h3=>⟨_,ldI 1 _ rfl k1,fun h4=>⟨?_,k1⟩,fun h4=>⟨_,k1.ldP (i:=0) (o:=2) (n:=5) (xs:=cq C.set) rfl (seA _) (seS _) rfl rfl,(ny C.set h.poly w1).mono ?_⟩⟩⟩⟩⟩,?_⟩
 · simp only [decide_eq_true_eq] at h1
   rw [jL,decide_eq_false (by omega:¬1≤C.gen)];rfl
 · simp only [decide_eq_true_eq] at h2
   rw [jL,decide_eq_false (by omega:¬C.gen≤1099511627776)];simp
 · simp only [decide_eq_true_eq] at h3
   rw [jL,decide_eq_false (by omega:¬0≤C.next)];simp
 · simp only [decide_eq_true_eq] at h4
   rw [jL,decide_eq_false (by omega:¬C.next≤1099511627776)];simp
 · rintro e w2 ⟨rfl,c2⟩
   have k2:K w2:=Sx.St.same k1 c2
   simp only [decide_eq_false_iff_not] at h1 h2 h3 h4
   have hg4:jL C=(bz C.set&&(decide (C.snaps.length≤64)&&decide (C.aj.length≤1024))):=by
     rw [jL,decide_eq_true (by omega:1≤C.gen),decide_eq_true (by omega:C.gen≤1099511627776),decide_eq_true (by omega:0≤C.next),decide_eq_true (by omega:C.next≤1099511627776)];rfl
   refine ⟨_,rfl,_,au hI _ _ _,fun h5=>⟨?_,k2⟩,fun h5=>⟨_,_,_,k2.ldL (i:=0) (o:=7) rfl (ssA _) rfl rfl,fun h6=>⟨?_,k2⟩,fun h6=>⟨_,_,_,k2.ldL (i:=0) (o:=8) rfl (psA _) rfl rfl,?_,k2⟩⟩⟩
   · rw [hg4]
     cases hg:bz C.set
     · rfl
     · rw [hg] at h5;simp at h5
   · simp only [decide_eq_true_eq] at h6
     rw [hg4,decide_eq_false (by omega:¬C.snaps.length≤64)];simp
   · simp only [decide_eq_false_iff_not] at h6
     have hg:bz C.set=true:=by
       cases hg:bz C.set
       · rw [hg] at h5;simp at h5
       · rfl
     rw [hg4,hg,decide_eq_true (by omega:C.snaps.length≤64),Bool.true_and,Bool.true_and,←decide_not]
     exact decide_eq_decide.2 (by omega)
 rintro b w3 ⟨rfl,k3⟩
 refine ⟨fun hb=>⟨?_,k3.chg⟩,fun hb=>?_⟩
 · have:aH C=false:=by simp only [Bool.not_eq_true'] at hb;rw [aH,hb];rfl
   rw [this];rfl
 have hH:jL C=true:=by simpa using hb
 have hs64:C.snaps.length≤64∧C.aj.length≤1024:=by
   simp only [jL,Bool.and_eq_true,decide_eq_true_eq] at hH
   exact hH.2.2
 have hck:aH C=(C.snaps.all bP&&(FB C.snaps&&oo C.next (-1) C.aj)):=by rw [aH,hH];rfl
 refine ⟨_,_,_,k3.ldL (i:=0) (o:=7) rfl (ssA _) rfl rfl,fun x w'=>∃i:Nat,x=(i:Int)∧i≤sn∧(C.snaps.take i).all bP=true∧(List.range i).all (vT C.snaps)=true∧K w',fun x _=>sn-x.toNat,⟨0,rfl,by omega,by simp,by simp,k3⟩,?_⟩
 rintro x w4 ⟨i,rfl,hi,hG,hA,k4⟩
 refine ⟨fun hlt=>?_,fun hge=>?_⟩
 · have hi':i<sn:=by simp at hlt;omega
   obtain ⟨s,hs⟩:∃s,C.snaps[i]?=some s:=⟨_,List.getElem?_eq_getElem (by omega)⟩
   obtain ⟨b1,o1,ha1,ld1'⟩:=h.snaps.ld (P:=Tryz.prog) (by decide) snA snS hs
   obtain ⟨g4,w5,r5,k5⟩:=Sx.St.az k4 snZ
   obtain ⟨w6,r6,k6⟩:=Sx.St.stA k5 (i:=1) (v:=fH s) rfl (snS _) (by simp) (iX s) (uM s)
   let S:World→Prop:=fun w'=>St w [] w' [.arr g 47 (bV C sa sn sc pa pn pc),.arr g4 89 (fH s)]
   have k6:S w6:=k6
   have k6d:S w6.drew:=Sx.St.drew k6
   have toK:∀ {w'},S w'→K w':=fun hw=>Sx.St.sub hw (by simp)
   refine ⟨b1,o1,ha1,by omega,by omega,_,ld1' w4 (h.snaps.an k4.chg),g4,w5,r5,w6,r6,fun b w'=>b= !(bP s&&vT C.snaps i)∧S w',⟨S,k6d,_,fun w' hw=>Sx.St.ldA hw (i:=1) (l:=fH s) rfl (snA _) (snS _) (iX s),(zA s (h.names s (List.mem_of_getElem? hs)) w6.drew).mono ?_⟩,?_⟩
   · rintro e w7 ⟨rfl,c7⟩
     have k7:S w7:=Sx.St.same k6d c7
     refine ⟨_,rfl,S,fun _ h=>h,k7,fun hb=>⟨?_,k7⟩,fun hb=>⟨fun h0=>?_,fun h0=>⟨?_,k7⟩⟩⟩
     · simp only [Bool.not_eq_true'] at hb
       rw [hb];rfl
     · have hi0:0<i:=by simp at h0;omega
       have hgs:bP s=true:=by simpa using hb
       obtain ⟨t,ht⟩:∃t,C.snaps[i-1]?=some t:=⟨_,List.getElem?_eq_getElem (by omega)⟩
       have eW:IntKind.wrap .i64 ((i:Int)-1)=((i-1:Nat):Int):=by rw [wrap_i64 (by omega) (by omega)];omega
       obtain ⟨b2,o2,ha2,ld2⟩:=h.snaps.fld (P:=Tryz.prog) (by decide) Gk (j:=0) ht rfl
       rw [eW]
       refine ⟨_,_,_,fun w' hw=>Sx.St.ldL hw (i:=0) (o:=7) rfl (ssA _) rfl rfl,b2,o2,ha2,by omega,by omega,_,fun w' hw=>ld2 w' (h.snaps.an (Sx.St.chg hw)),_,fun w' hw=>Sx.St.ldL hw (i:=1) (o:=0) rfl (Gk _) rfl rfl,_,fun w' _=>Pr t.name s.name _ _ w',?_,k7⟩
       have hat:vT C.snaps i=lexLt t.name s.name:=by
         have:(i==0)=false:=by simp;omega
         rw [vT,this,ht,hs];rfl
       rw [hgs,hat];rfl
     · have hi0:i=0:=by simp at h0;omega
       have hgs:bP s=true:=by simpa using hb
       subst hi0
       rw [hgs];rfl
   · rintro b w8 ⟨rfl,k8⟩
     refine ⟨fun hb=>⟨?_,k8.chg⟩,fun hb=>⟨⟨i+1,aq hi' (by omega),by omega,?_,?_,toK k8⟩,aB hi' (by omega)⟩⟩
     · have hf:(bP s&&vT C.snaps i)=false:=by simpa only [Bool.not_eq_true'] using hb
       have:aH C=false:=by
         rw [hck]
         rcases Bool.and_eq_false_iff.1 hf with h1 | h1
         · have:C.snaps.all bP=false:=by
             rw [List.all_eq_false]
             exact ⟨s,List.mem_of_getElem? hs,by rw [h1];simp⟩
           rw [this];rfl
         · have:FB C.snaps=false:=by
             rw [FB,List.all_eq_false]
             exact ⟨i,List.mem_range.2 (by omega),by rw [h1];simp⟩
           rw [this];simp
       rw [this];rfl
     · have ht:(bP s&&vT C.snaps i)=true:=by simpa only [Bool.not_eq_false'] using hb
       rw [List.take_add_one,hs]
       simp only [Option.toList_some,List.all_append,List.all_cons,List.all_nil,Bool.and_true]
       rw [hG,(Bool.and_eq_true_iff.1 ht).1];rfl
     · have ht:(bP s&&vT C.snaps i)=true:=by simpa only [Bool.not_eq_false'] using hb
       rw [List.range_succ]
       simp only [List.all_append,List.all_cons,List.all_nil,Bool.and_true]
       rw [hA,(Bool.and_eq_true_iff.1 ht).2];rfl
 · have hi':i=sn:=by simp at hge;omega
   have hG':C.snaps.all bP=true:=by rw [hi',←hsn,List.take_length] at hG;exact hG
   have hA':FB C.snaps=true:=by rw [hi',←hsn] at hA;exact hA
   refine ⟨_,_,_,k4.ldL (i:=0) (o:=8) rfl (psA _) rfl rfl,fun z x w'=>∃j:Nat,x=(j:Int)∧j≤pn∧oo C.next (-1) C.aj=oo C.next z (C.aj.drop j)∧K w',fun _ x _=>pn-x.toNat,⟨0,rfl,by omega,by simp,k4⟩,?_⟩
   rintro z x w9 ⟨j,rfl,hj,hP,k9⟩
   refine ⟨fun hlt=>?_,fun hge=>?_⟩
   · have hj':j<pn:=by simp at hlt;omega
     obtain ⟨p,hp⟩:∃p,C.aj[j]?=some p:=⟨_,List.getElem?_eq_getElem (by omega)⟩
     have hdr:C.aj.drop j=p::C.aj.drop (j+1):=by
       rw [List.drop_eq_getElem_cons (by omega)]
       congr 1
       rw [List.getElem?_eq_getElem (by omega)] at hp
       exact Option.some.inj hp
     obtain ⟨b1,o1,ha1,ldp⟩:=h.aj.ld (P:=Tryz.prog) (by decide) pqA pqS hp
     obtain ⟨g7,w10,r10,k10⟩:=Sx.St.az k9 pqZ
     obtain ⟨w11,r11,k11⟩:=Sx.St.stA k10 (i:=1) (v:=pkC p) rfl (pqS _) (by simp) rfl (fun v hv=>by simp [pkC] at hv;rcases hv with rfl | rfl | rfl<;>rfl)
     let S:World→Prop:=fun w'=>St w [] w' [.arr g 47 (bV C sa sn sc pa pn pc),.arr g7 91 (pkC p)]
     have k11:S w11:=k11
     have ldQ:∀(o:Nat) (z:Int),(pkC p)[o]?=some (.int .i64 z)→∀ {w'},S w'→(Instr.loadAt 3 (.pointer (some ⟨g7,o,none⟩))).run Tryz.prog w'=.ok (.int .i64 z) w':=fun o z hz {w'} hw=>by
       have:=Sx.St.ldL hw (i:=1) (o:=o) rfl (CI _) rfl hz
       exact this
     let okp:Bool:=decide (z<p.num)&&(decide (p.num<C.next)&&(decide (0≤p.size)&&decide (0≤p.count)))
     refine ⟨b1,o1,ha1,by omega,by omega,_,ldp w9 (h.aj.an k9.chg),g7,w10,r10,w11,r11,fun b w'=>b= !(decide (z<p.num)&&(decide (p.num<C.next)&&(decide (0≤p.size)&&decide (0≤p.count))))∧S w',⟨_,ldQ 0 _ rfl k11,fun h1=>⟨?_,k11⟩,fun h1=>⟨_,ldQ 0 _ rfl k11,_,ldI 1 _ rfl (Sx.St.sub k11 (by simp)),fun h2=>⟨?_,k11⟩,fun h2=>⟨_,ldQ 1 _ rfl k11,fun h3=>⟨?_,k11⟩,fun h3=>⟨_,ldQ 2 _ rfl k11,?_,k11⟩⟩⟩⟩,?_⟩
     · simp only [decide_eq_true_eq] at h1
       rw [decide_eq_false (by omega:¬z<p.num)];rfl
     · simp only [decide_eq_true_eq,ge_iff_le] at h2
       rw [decide_eq_false (by omega:¬p.num<C.next)];simp
     · simp only [decide_eq_true_eq] at h3
       rw [decide_eq_false (by omega:¬0≤p.size)];simp
     · simp only [decide_eq_false_iff_not,ge_iff_le] at h1 h2 h3
       rw [decide_eq_true (by omega:z<p.num),decide_eq_true (by omega:p.num<C.next),decide_eq_true (by omega:0≤p.size),Bool.true_and,Bool.true_and,Bool.true_and,←decide_not]
       exact decide_eq_decide.2 (by omega)
     · rintro b w12 ⟨rfl,k12⟩
       rw [hdr,oo] at hP
       refine ⟨fun hb=>⟨?_,k12.chg⟩,fun hb=>⟨_,ldQ 0 _ rfl k12,⟨j+1,aq hj' (by omega),by omega,?_,Sx.St.sub k12 (by simp)⟩,aB hj' (by omega)⟩⟩
       · simp only [Bool.not_eq_true'] at hb
         have:aH C=false:=by rw [hck,hP,hb];simp
         rw [this];rfl
       · simp only [Bool.not_eq_false'] at hb
         rw [hP,hb];rfl
   · have hj':j=pn:=by simp at hge;omega
     refine ⟨?_,k9.chg⟩
     have:aH C=true:=by
       rw [hck,hG',hA',hP,hj',←hpn,List.drop_length];rfl
     rw [this];rfl

end Go.Proofs.YtpmhjnhgpplmnaaGreatDoor
end

section
namespace Go.Proofs.YtpmhjnhgpplmnaaGreatDoor
open Go Sx
set_option maxRecDepth 8000

def yF (z:Int):List UInt8:=if z<0 then [] else iw z.toNat
def cQ (l:List Int):List UInt8:=(l.map yF).flatten
def BQ (z:Int):List UInt8:=fA (z%18446744073709551616).toNat
theorem xI {z:Int} (h:z≤9223372036854775807):(yF z).length≤9:=by
 unfold yF
 split
 · simp
 · exact ff 9 z.toNat (by omega) (by decide)
theorem FW (l:List Int) (z:Int):cQ (l++ [z])=cQ l++yF z:=by simp [cQ]
theorem lT:∀ {l:List Int},(∀z∈l,z≤9223372036854775807)→(cQ l).length≤9*l.length
 | [],_=>by simp [cQ]
 | z::l,h=>by
   have h1:=xI (h z (by simp))
   have h2:=lT (l:=l) fun y hy=>h y (by simp [hy])
   simp only [cQ,List.map_cons,List.flatten_cons,List.length_append,List.length_cons] at h2 ⊢
   omega
section
variable {w0 w:World} {X:List Nat} {M:List Res}
end

end Go.Proofs.YtpmhjnhgpplmnaaGreatDoor
end

section
namespace Go.Proofs.YtpmhjnhgpplmnaaGreatDoor
open Go Sx
set_option maxRecDepth 8000

theorem uB (args:Array Value) (w:World):(Builtin.append_ #[185,26] 185 args).run Tryz.prog w=(Builtin.append_ #[26,26] 26 args).run Tryz.prog w:=by
 have u1:=Tryz.underlying185
 have u2:=Tryz.underlying26
 unfold Builtin.append_
 have e1:(#[185,26]:Array TypeId)[0]?=some 185:=rfl
 have e2:(#[185,26]:Array TypeId)[1]?=some 26:=rfl
 have e3:(#[26,26]:Array TypeId)[0]?=some 26:=rfl
 have e4:(#[26,26]:Array TypeId)[1]?=some 26:=rfl
 rw [e1,e2,e3,e4]
 cases h0:args[0]? with
 | none=>rfl
 | some s=>
   cases h1:args[1]? with
   | none=>rfl
   | some x=>simp only [Sem.run_bind,run_underlying u1,run_underlying u2,Result.andThen_ok]

theorem N5 (z:Int) (hz:z≤9223372036854775807) (w:World):Calls Tryz.prog 197 #[.int .i64 z] w fun e w'=>∃a n c,e=.returned (.slice a n c)∧Chg [] w w'∧RdB w' a n c (yF z):=by
 by_cases h:z<0
 · refine (LC z w h).mono ?_
   rintro e w' ⟨rfl,rfl⟩
   exact ⟨_,_,_,rfl,Chg.refl _ _,by rw [yF,if_pos h];exact OA _⟩
 · obtain ⟨m,rfl⟩:∃m:Nat,z=(m:Int):=⟨z.toNat,by omega⟩
   refine (yx m w (by omega)).mono ?_
   rintro e w' ⟨a,n,c,rfl,hf⟩
   exact ⟨_,_,_,rfl,hf.1,by rw [yF,if_neg h,Int.toNat_natCast];exact hf.rdB⟩
theorem NS (z:Int) (_:z≤9223372036854775807) (w:World):Calls Tryz.prog 196 #[.int .i64 z] w fun e w'=>∃a n c,e=.returned (.slice a n c)∧Chg [] w w'∧RdB w' a n c (BQ z):=by
 refine (Aw z w).mono ?_
 rintro e w' ⟨a,n,c,rfl,hf⟩
 exact ⟨_,_,_,rfl,hf.1,hf.rdB⟩
theorem kF (z:Int):(BQ z).length=8:=by simp [BQ,fA]
def dm (l:List Int):List UInt8:=(l.map BQ).flatten
theorem Fm (l:List Int) (z:Int):dm (l++ [z])=dm l++BQ z:=by simp [dm]
theorem AD:∀ {l:List Int},(∀z∈l,z≤9223372036854775807)→(dm l).length≤9*l.length
 | [],_=>by simp [dm]
 | z::l,h=>by
   have h1:=kF z
   have h2:=AD (l:=l) fun y hy=>h y (by simp [hy])
   simp only [dm,List.map_cons,List.flatten_cons,List.length_append,List.length_cons] at h2 ⊢
   omega

set_option maxHeartbeats 1000000 in
theorem EW {w0 w:World} {X:List Nat} {M:List Res} (zs:List Int) (hz:∀z∈zs,z≤9223372036854775807) (la:Option Addr) (ln lc:Nat) (g:Nat) (a:Option Addr) (n c:Nat) (l:List UInt8) (h:St w0 X w (M++ [.arr g 185 [.slice a n c],.row 5 1 (.slice a n c) n (bv l)])) (hl:∀w',St w0 X w' M→Rd w' la ln lc 1 (iv zs)) (hb:n+9*zs.length≤140737488355000):
   Calls Tryz.prog 99 #[.pointer (some ⟨g,0,none⟩),.slice la ln lc] w fun e w'=>e=.returned (.tuple #[])∧∃a' c',St w0 X w' (M++ [.arr g 185 [.slice a' (n+(cQ zs).length) c'],.row 5 1 (.slice a' (n+(cQ zs).length) c') (n+(cQ zs).length) (bv (l++cQ zs))]):=by
 have hln:zs.length=ln:=by have:=(hl w (h.sub (List.sublist_append_left _ _))).len;simpa using this
 apply nB
 refine ⟨fun x w'=>∃(i:Nat) (xa:Option Addr) (xc:Nat),x=(i:Int)∧i≤ln∧St w0 X w' (M++ [.arr g 185 [.slice xa (n+(cQ (zs.take i)).length) xc],.row 5 1 (.slice xa (n+(cQ (zs.take i)).length) xc) (n+(cQ (zs.take i)).length) (bv (l++cQ (zs.take i)))]),fun x _=>ln-x.toNat,⟨0,a,c,rfl,by omega,by simpa [cQ] using h⟩,?_⟩
 rintro x w1 ⟨i,xa,xc,rfl,hi,hS⟩
 refine ⟨fun hlt=>?_,fun hge=>?_⟩
 · have hi':i<ln:=by simp at hlt;omega
   obtain ⟨z,hzi⟩:∃z,zs[i]?=some z:=⟨_,List.getElem?_eq_getElem (by omega)⟩
   have hcell:(iv zs)[i]?=some (.int .i64 z):=by rw [Kb,hzi];rfl
   obtain ⟨b,o,ha,hc⟩:=(hl w1 (hS.sub (List.sublist_append_left _ _))).cells.at_ hcell
   have hz1:=hz z (List.mem_of_getElem? hzi)
   obtain ⟨N,hN⟩:∃N,n+(cQ (zs.take i)).length=N:=⟨_,rfl⟩
   have htl:=lT (l:=zs.take i) fun y hy=>hz y (List.mem_of_mem_take hy)
   rw [List.length_take,Nat.min_eq_left (by omega)] at htl
   rw [hN] at hS
   let S:World→Prop:=fun w'=>St w0 X w' (M++ [.arr g 185 [.slice xa N xc]])
   have toS:∀ {w' r},St w0 X w' (M++ [.arr g 185 [.slice xa N xc],r])→S w':=fun hw=>Sx.St.sub hw (List.Sublist.append_left (by simp) _)
   have hSd:=hS.drew
   have g0:∀(x y:Res),(M++ [x,y])[M.length]?=some x:=fun x y=>by rw [List.getElem?_append_right (Nat.le_refl _),Nat.sub_self];rfl
   have g1:∀(x y:Res),(M++ [x,y])[M.length+1]?=some y:=fun x y=>by rw [List.getElem?_append_right (by omega),Nat.add_sub_cancel_left];rfl
   refine ⟨b,o,ha,by omega,by omega,_,by rw [Int.toNat_natCast,Nat.mul_one];exact ld1 (CI _) hc,S,toS hSd,_,_,_,fun w' hw=>Sx.St.ldL hw (i:=M.length) (o:=0) List.getElem?_concat_length (Tryz.isAgg185 _) rfl rfl,(N5 z hz1 w1.drew).mono ?_⟩
   rintro e w2 ⟨ba,bn,bc,rfl,c2,hr⟩
   have h2:=hSd.same c2
   have hbl:=hr.bh
   have hv:(yF z).length≤9:=xI hz1
   obtain ⟨va,vc,w3,r3,h3⟩:=h2.bL (i:=M.length+1) (g1 _ _) hr (by omega)
   rw [List.set_append_right _ _ (by omega),Nat.add_sub_cancel_left] at h3
   have h3:St w0 X w3 (M++ [.arr g 185 [.slice xa N xc],.row 5 1 (.slice va (N+bn) vc) (N+bn) (bv (l++cQ (zs.take i)++yF z))]):=h3
   obtain ⟨w4,r4,h4⟩:=h3.stL (i:=M.length) (o:=0) (off:=0) (T:=185) (v:=.slice va (N+bn) vc) (g0 _ _) (Tryz.sizeOf185 _) rfl (by simp) rfl
   rw [List.set_append_right _ _ (Nat.le_refl _),Nat.sub_self] at h4
   have htk:cQ (zs.take (i+1))=cQ (zs.take i)++yF z:=by rw [List.take_add_one,hzi];exact FW _ _
   refine ⟨_,_,_,rfl,S,fun _ h=>h,toS h2,va,_,vc,w3,by rw [uB];exact r3,S,fun _ h=>h,toS h3,w4,r4,⟨i+1,va,vc,aq hi' (by omega),by omega,?_⟩,aB hi' (by omega)⟩
   have e1:n+(cQ (zs.take (i+1))).length=N+bn:=by rw [htk,List.length_append,←hbl];omega
   rw [e1,htk,←List.append_assoc]
   exact h4
 · have hi':i=ln:=by simp at hge;omega
   rw [hi',←hln,List.take_length] at hS
   exact ⟨rfl,xa,xc,hS⟩

set_option maxHeartbeats 1000000 in
theorem EG {w0 w:World} {X:List Nat} {M:List Res} (zs:List Int) (hz:∀z∈zs,z≤9223372036854775807) (la:Option Addr) (ln lc:Nat) (g:Nat) (a:Option Addr) (n c:Nat) (l:List UInt8) (h:St w0 X w (M++ [.arr g 185 [.slice a n c],.row 5 1 (.slice a n c) n (bv l)])) (hl:∀w',St w0 X w' M→Rd w' la ln lc 1 (iv zs)) (hb:n+9*zs.length≤140737488355000):
   Calls Tryz.prog 98 #[.pointer (some ⟨g,0,none⟩),.slice la ln lc] w fun e w'=>e=.returned (.tuple #[])∧∃a' c',St w0 X w' (M++ [.arr g 185 [.slice a' (n+(dm zs).length) c'],.row 5 1 (.slice a' (n+(dm zs).length) c') (n+(dm zs).length) (bv (l++dm zs))]):=by
 have hln:zs.length=ln:=by have:=(hl w (h.sub (List.sublist_append_left _ _))).len;simpa using this
 apply nD
 refine ⟨fun x w'=>∃(i:Nat) (xa:Option Addr) (xc:Nat),x=(i:Int)∧i≤ln∧St w0 X w' (M++ [.arr g 185 [.slice xa (n+(dm (zs.take i)).length) xc],.row 5 1 (.slice xa (n+(dm (zs.take i)).length) xc) (n+(dm (zs.take i)).length) (bv (l++dm (zs.take i)))]),fun x _=>ln-x.toNat,⟨0,a,c,rfl,by omega,by simpa [dm] using h⟩,?_⟩
 rintro x w1 ⟨i,xa,xc,rfl,hi,hS⟩
 refine ⟨fun hlt=>?_,fun hge=>?_⟩
 · have hi':i<ln:=by simp at hlt;omega
   obtain ⟨z,hzi⟩:∃z,zs[i]?=some z:=⟨_,List.getElem?_eq_getElem (by omega)⟩
   have hcell:(iv zs)[i]?=some (.int .i64 z):=by rw [Kb,hzi];rfl
   obtain ⟨b,o,ha,hc⟩:=(hl w1 (hS.sub (List.sublist_append_left _ _))).cells.at_ hcell
   have hz1:=hz z (List.mem_of_getElem? hzi)
   obtain ⟨N,hN⟩:∃N,n+(dm (zs.take i)).length=N:=⟨_,rfl⟩
   have htl:=AD (l:=zs.take i) fun y hy=>hz y (List.mem_of_mem_take hy)
   rw [List.length_take,Nat.min_eq_left (by omega)] at htl
   rw [hN] at hS
   let S:World→Prop:=fun w'=>St w0 X w' (M++ [.arr g 185 [.slice xa N xc]])
   have toS:∀ {w' r},St w0 X w' (M++ [.arr g 185 [.slice xa N xc],r])→S w':=fun hw=>Sx.St.sub hw (List.Sublist.append_left (by simp) _)
   have hSd:=hS.drew
   have g0:∀(x y:Res),(M++ [x,y])[M.length]?=some x:=fun x y=>by rw [List.getElem?_append_right (Nat.le_refl _),Nat.sub_self];rfl
   have g1:∀(x y:Res),(M++ [x,y])[M.length+1]?=some y:=fun x y=>by rw [List.getElem?_append_right (by omega),Nat.add_sub_cancel_left];rfl
   refine ⟨b,o,ha,by omega,by omega,_,by rw [Int.toNat_natCast,Nat.mul_one];exact ld1 (CI _) hc,S,toS hSd,_,_,_,fun w' hw=>Sx.St.ldL hw (i:=M.length) (o:=0) List.getElem?_concat_length (Tryz.isAgg185 _) rfl rfl,(NS z hz1 w1.drew).mono ?_⟩
   rintro e w2 ⟨ba,bn,bc,rfl,c2,hr⟩
   have h2:=hSd.same c2
   have hbl:=hr.bh
   have hv:(BQ z).length≤9:=by rw [kF];omega
   obtain ⟨va,vc,w3,r3,h3⟩:=h2.bL (i:=M.length+1) (g1 _ _) hr (by omega)
   rw [List.set_append_right _ _ (by omega),Nat.add_sub_cancel_left] at h3
   have h3:St w0 X w3 (M++ [.arr g 185 [.slice xa N xc],.row 5 1 (.slice va (N+bn) vc) (N+bn) (bv (l++dm (zs.take i)++BQ z))]):=h3
   obtain ⟨w4,r4,h4⟩:=h3.stL (i:=M.length) (o:=0) (off:=0) (T:=185) (v:=.slice va (N+bn) vc) (g0 _ _) (Tryz.sizeOf185 _) rfl (by simp) rfl
   rw [List.set_append_right _ _ (Nat.le_refl _),Nat.sub_self] at h4
   have htk:dm (zs.take (i+1))=dm (zs.take i)++BQ z:=by rw [List.take_add_one,hzi];exact Fm _ _
   refine ⟨_,_,_,rfl,S,fun _ h=>h,toS h2,va,_,vc,w3,by rw [uB];exact r3,S,fun _ h=>h,toS h3,w4,r4,⟨i+1,va,vc,aq hi' (by omega),by omega,?_⟩,aB hi' (by omega)⟩
   have e1:n+(dm (zs.take (i+1))).length=N+bn:=by rw [htk,List.length_append,←hbl];omega
   rw [e1,htk,←List.append_assoc]
   exact h4
 · have hi':i=ln:=by simp at hge;omega
   rw [hi',←hln,List.take_length] at hS
   exact ⟨rfl,xa,xc,hS⟩

end Go.Proofs.YtpmhjnhgpplmnaaGreatDoor
end

section
namespace Go.Proofs.YtpmhjnhgpplmnaaGreatDoor
open Go Sx
set_option maxRecDepth 8000

def yP (s:gJ):Int:=IntKind.wrap .i64 (s.poly:Int)
def nv (s:dY):List UInt8:=iw s.name.length++s.name++(BQ s.time++(cQ [s.size,s.chunks]++s.root))
def pkB (p:PkD):List UInt8:=cQ [p.num,p.size,p.count]
def mA (C:bR):List UInt8:=dm [C.gen,C.next,yP C.set]++(cQ [C.set.win,C.set.min,C.set.max,C.set.bits,(C.snaps.length:Int)]++(C.snaps.flatMap nv++(cQ [(C.aj.length:Int)]++C.aj.flatMap pkB)))
def Lm:List UInt8:=[99,97,116,97,108,111,103]
def jI (K:List UInt8) (C:bR):List UInt8:=dA K 4 Lm (mA C)

def I63 (z:Int):Prop:= -9223372036854775808≤z∧z≤9223372036854775807
def N63 (z:Int):Prop:=0≤z∧z≤9223372036854775807
theorem Im (s:gJ):I63 (yP s):=by
 unfold yP I63
 rw [Cr]
 split<;>omega
theorem BO {s:dY} :bP s=true↔xJ s.name=true∧(-1099511627776≤s.time∧s.time≤1099511627776)∧0≤s.size∧0≤s.chunks∧s.chunks≤65536:=by
 simp only [bP,Bool.and_eq_true,decide_eq_true_eq]
 constructor
 · rintro ⟨a,b,c,d,e,f⟩;exact ⟨a,⟨b,c⟩,d,e,f⟩
 · rintro ⟨a,⟨b,c⟩,d,e,f⟩;exact ⟨a,b,c,d,e,f⟩
theorem FM {s:List UInt8} (h:xJ s=true):1≤s.length∧s.length≤32:=by
 simp only [xJ,Bool.and_eq_true,decide_eq_true_eq] at h
 exact h.2
structure gE (C:bR):Prop where
 gen:I63 C.gen
 next:I63 C.next
 poly:C.set.poly<18446744073709551616
 set:N63 C.set.win∧N63 C.set.min∧N63 C.set.max∧N63 C.set.bits
 sn:C.snaps.length≤64
 pn:C.aj.length≤1024
 snaps:∀s∈C.snaps,(1≤s.name.length∧s.name.length≤32)∧I63 s.time∧N63 s.size∧N63 s.chunks
 aj:∀p∈C.aj,N63 p.num∧N63 p.size∧N63 p.count
theorem dS {z:Int} (h:N63 z):(yF z).length≤9:=xI h.2
theorem pS {s:dY} (h:(1≤s.name.length∧s.name.length≤32)∧I63 s.time∧N63 s.size∧N63 s.chunks):(nv s).length≤100:=by
 have h1:=dS h.2.2.1
 have h2:=dS h.2.2.2
 have h3:(iw s.name.length).length=1:=by rw [iZ (by omega)];rfl
 simp only [nv,cQ,List.map_cons,List.map_nil,List.flatten_cons,List.flatten_nil,List.append_nil,List.length_append,kF,s.rl,h3]
 omega
theorem B8 {p:PkD} (h:N63 p.num∧N63 p.size∧N63 p.count):(pkB p).length≤27:=by
 have h1:=dS h.1
 have h2:=dS h.2.1
 have h3:=dS h.2.2
 simp only [pkB,cQ,List.map_cons,List.map_nil,List.flatten_cons,List.flatten_nil,List.append_nil,List.length_append]
 omega
theorem lq {α:Type} {f:α→List UInt8} {k:Nat} :∀ {l:List α},(∀x∈l,(f x).length≤k)→(l.flatMap f).length≤k*l.length
 | [],_=>by simp
 | x::l,h=>by
   have h1:=h x (by simp)
   have h2:=lq (l:=l) fun y hy=>h y (by simp [hy])
   rw [List.flatMap_cons,List.length_append,List.length_cons,Nat.mul_succ]
   omega
theorem Ah {C:bR} (h:gE C):(mA C).length≤40000:=by
 have h1:=lq (f:=nv) (k:=100) fun s hs=>pS (h.snaps s hs)
 have h2:=lq (f:=pkB) (k:=27) fun p hp=>B8 (h.aj p hp)
 have a1:=dS h.set.1
 have a2:=dS h.set.2.1
 have a3:=dS h.set.2.2.1
 have a4:=dS h.set.2.2.2
 have b1:=h.sn
 have b2:=h.pn
 have a5:=dS (z:=(C.snaps.length:Int)) ⟨by omega,by omega⟩
 have a6:=dS (z:=(C.aj.length:Int)) ⟨by omega,by omega⟩
 simp only [mA,dm,cQ,List.map_cons,List.map_nil,List.flatten_cons,List.flatten_nil,List.append_nil,List.length_append,kF]
 omega
theorem Ld {s:gJ} (h:bz s=true):N63 s.win∧N63 s.min∧N63 s.max∧N63 s.bits:=by
 simp only [bz,gd1,gd2,gd3,gd4,Bool.and_eq_true,decide_eq_true_eq] at h
 have h2:=h.2
 unfold N63
 omega

end Go.Proofs.YtpmhjnhgpplmnaaGreatDoor
end

section
namespace Go.Proofs.YtpmhjnhgpplmnaaGreatDoor
open Go Sx
set_option maxRecDepth 8000

theorem snT:gF Tryz.prog 25 89 36 72 (.agg ([aJ [],.int .i64 0,.int .i64 0,.int .i64 0]++bv (List.replicate 32 0)).toArray):=⟨by kernel_rfl,⟨Tryz.t89,by kernel_rfl,by kernel_rfl,by kernel_rfl,by kernel_rfl⟩,rfl,by decide⟩
theorem s7 (a:Option Addr) (n c:Nat) (l:List dY) (w:World) (h:RdS w a n c l) (hn:n≤1000000):
   Calls Tryz.prog 109 #[.slice a n c] w fun e w'=>∃a' c',e=.returned (.slice a' n c')∧St w [] w' [.row 89 36 (.slice a' n c') n (l.flatMap fH)]:=by
 apply eZ
 refine ⟨fun h0=>?_,fun h0=>?_⟩
 · have ha:a=none:=by simpa using h0
   subst ha
   have hn0:n=0:=by have:=h.rd.nil rfl;have:=h.rd.le;omega
   subst hn0
   have hl:l=[]:=List.eq_nil_of_length_eq_zero (h.num (by decide))
   subst hl
   exact ⟨none,0,rfl,(St.start w).b8 89 36⟩
 · obtain ⟨ga,w1,r1,k1⟩:=(St.start w).Mc snT
   have h1:=h.an k1.chg
   obtain ⟨va,vc,w2,r2,k2,_,_⟩:=k1.append (i:=0) (ty:=25) snT rfl h1.rd (fun v hv=>by
     obtain ⟨s,_,hs⟩:=List.mem_flatMap.1 hv
     exact uM s v hs) (by omega) (by simp only [maxLen];omega)
   rw [Nat.zero_add] at r2 k2
   exact ⟨_,_,_,w1,r1,_,_,_,w2,r2,va,vc,rfl,k2⟩

theorem pqT:gF Tryz.prog 45 91 3 24 (.agg ([.int .i64 0,.int .i64 0,.int .i64 0]:List Value).toArray):=⟨by kernel_rfl,⟨Tryz.t91,by kernel_rfl,by kernel_rfl,by kernel_rfl,by kernel_rfl⟩,rfl,by decide⟩
theorem BV (a:Option Addr) (n c:Nat) (l:List PkD) (w:World) (h:RdE pkC 3 w a n c l) (hn:n≤1000000):
   Calls Tryz.prog 110 #[.slice a n c] w fun e w'=>∃a' c',e=.returned (.slice a' n c')∧St w [] w' [.row 91 3 (.slice a' n c') n (l.flatMap pkC)]:=by
 apply ig
 refine ⟨fun h0=>?_,fun h0=>?_⟩
 · have ha:a=none:=by simpa using h0
   subst ha
   have hn0:n=0:=by have:=h.rd.nil rfl;have:=h.rd.le;omega
   subst hn0
   have hl:l=[]:=List.eq_nil_of_length_eq_zero (h.num (by decide))
   subst hl
   exact ⟨none,0,rfl,(St.start w).b8 91 3⟩
 · obtain ⟨ga,w1,r1,k1⟩:=(St.start w).Mc pqT
   have h1:=h.an k1.chg
   obtain ⟨va,vc,w2,r2,k2,_,_⟩:=k1.append (i:=0) (ty:=45) pqT rfl h1.rd (fun v hv=>by
     obtain ⟨s,_,hs⟩:=List.mem_flatMap.1 hv
     simp [pkC] at hs;rcases hs with rfl | rfl | rfl<;>rfl) (by omega) (by simp only [maxLen];omega)
   rw [Nat.zero_add] at r2 k2
   exact ⟨_,_,_,w1,r1,_,_,_,w2,r2,va,vc,rfl,k2⟩

end Go.Proofs.YtpmhjnhgpplmnaaGreatDoor
end

section
namespace Go.Proofs.YtpmhjnhgpplmnaaGreatDoor
open Go Sx
set_option maxRecDepth 8000

def gQ:List Value:=[.int .i64 0,.int .i64 0,.int .u64 0,.int .i64 0,.int .i64 0,.int .i64 0,.int .i64 0,.slice none 0 0,.slice none 0 0]
theorem AF (w:World):(zeroValue 47).run Tryz.prog w=.ok (.agg gQ.toArray) w:=Tryz.zeroValue47 w
theorem jM (w:World):(isAgg 47).run Tryz.prog w=.ok true w:=Tryz.isAgg47 w
theorem fI (w:World):(sizeOf 47).run Tryz.prog w=.ok 9 w:=Tryz.sizeOf47 w
theorem ssS (w:World):(sizeOf 25).run Tryz.prog w=.ok 1 w:=Tryz.sizeOf25 w
theorem psS (w:World):(sizeOf 45).run Tryz.prog w=.ok 1 w:=Tryz.sizeOf45 w
theorem mm (C:bR) (sa:Option Addr) (sn sc:Nat) (pa:Option Addr) (pn pc:Nat):∀v∈bV C sa sn sc pa pn pc,v.oneCell'=true:=fun v hv=>by
 simp only [bV,cq,List.cons_append,List.nil_append,List.mem_cons,List.not_mem_nil,or_false] at hv
 rcases hv with rfl | rfl | rfl | rfl | rfl | rfl | rfl | rfl | rfl<;>rfl
theorem Be (C:bR) (sa:Option Addr) (sn sc:Nat) (pa:Option Addr) (pn pc:Nat) (w:World) (h:Bo w C sa sn sc pa pn pc) (hs:sn≤1000000) (hp:pn≤1000000):
   Calls Tryz.prog 40 #[.agg (bV C sa sn sc pa pn pc).toArray] w fun e w'=>∃sa' sc' pa' pc',e=.returned (.agg (bV C sa' sn sc' pa' pn pc').toArray)∧St w [] w' [.row 89 36 (.slice sa' sn sc') sn (C.snaps.flatMap fH),.row 91 3 (.slice pa' pn pc') pn (C.aj.flatMap pkC)]:=by
 apply wm
 obtain ⟨g1,w1,r1,k1⟩:=(St.start w).b7 (P:=Tryz.prog) 47 (bV C sa sn sc pa pn pc)
 obtain ⟨g2,w2,r2,k2⟩:=k1.az AF
 let S:World→Prop:=fun w'=>St w [] w' [.arr g1 47 (bV C sa sn sc pa pn pc),.arr g2 47 gQ]
 have k2:S w2:=k2
 have k2d:S w2.drew:=Sx.St.drew k2
 refine ⟨g1,w1,r1,g2,w2,r2,S,k2d,_,_,_,fun w' hw=>Sx.St.ldL hw (i:=0) (o:=7) rfl (ssA _) rfl rfl,_,_,_,fun w' hw=>Sx.St.ldL hw (i:=0) (o:=8) rfl (psA _) rfl rfl,(s7 sa sn sc C.snaps w2.drew (h.snaps.an (Sx.St.chg k2d)) hs).mono ?_⟩
 rintro e w3 ⟨sa',sc',rfl,k3⟩
 have k3':S w3:=Sx.St.same k2d k3.chg
 have j3:=Sx.St.cC (N:=[]) (by rw [List.append_nil];exact k2d) k3
 refine ⟨_,_,_,rfl,S,fun _ h=>h,k3',(BV pa pn pc C.aj w3 (h.aj.an (Sx.St.chg k3')) hp).mono ?_⟩
 rintro e w4 ⟨pa',pc',rfl,k4⟩
 have k4':S w4:=Sx.St.same k3' k4.chg
 have j4:=Sx.St.cC (N:=[]) (by rw [List.append_nil];exact j3) k4
 have j4:St w [] w4 [.arr g1 47 (bV C sa sn sc pa pn pc),.arr g2 47 gQ,.row 89 36 (.slice sa' sn sc') sn (C.snaps.flatMap fH),.row 91 3 (.slice pa' pn pc') pn (C.aj.flatMap pkC)]:=j4
 obtain ⟨w5,r5,j5⟩:=j4.stL (i:=0) (o:=7) (off:=7) (T:=25) (v:=.slice sa' sn sc') rfl (ssS _) rfl (by simp [bV,cq]) rfl
 obtain ⟨w6,r6,j6⟩:=j5.stL (i:=0) (o:=8) (off:=8) (T:=45) (v:=.slice pa' pn pc') rfl (psS _) rfl (by simp [bV,cq]) rfl
 have j6:St w [] w6 [.arr g1 47 (bV C sa' sn sc' pa' pn pc'),.arr g2 47 gQ,.row 89 36 (.slice sa' sn sc') sn (C.snaps.flatMap fH),.row 91 3 (.slice pa' pn pc') pn (C.aj.flatMap pkC)]:=j6
 obtain ⟨w7,r7,j7⟩:=j6.stA (i:=1) (v:=bV C sa' sn sc' pa' pn pc') rfl (fI _) rfl rfl (mm _ _ _ _ _ _ _)
 have j7:St w [] w7 [.arr g1 47 (bV C sa' sn sc' pa' pn pc'),.arr g2 47 (bV C sa' sn sc' pa' pn pc'),.row 89 36 (.slice sa' sn sc') sn (C.snaps.flatMap fH),.row 91 3 (.slice pa' pn pc') pn (C.aj.flatMap pkC)]:=j7
 refine ⟨_,_,_,rfl,S,fun _ h=>h,k4',w5,r5,w6,r6,_,j6.ldA (i:=0) (l:=bV C sa' sn sc' pa' pn pc') rfl (jM _) (fI _) rfl,w7,r7,_,j7.bF (i:=1) rfl (jM _) (fI _) rfl,sa',sc',pa',pc',rfl,j7.sub (by simp)⟩

end Go.Proofs.YtpmhjnhgpplmnaaGreatDoor
end

section
namespace Go.Proofs.YtpmhjnhgpplmnaaGreatDoor
open Go Sx
set_option maxRecDepth 8000

theorem byZ (w:World):(zeroValue 185).run Tryz.prog w=.ok (.slice none 0 0) w:=Tryz.zeroValue185 w
theorem byA (w:World):(isAgg 185).run Tryz.prog w=.ok false w:=Tryz.isAgg185 w
theorem byS (w:World):(sizeOf 185).run Tryz.prog w=.ok 1 w:=Tryz.sizeOf185 w
def VB (w0 w:World) (M:List Res) (g:Nat) (l:List UInt8):Prop:=∃a c,St w0 [] w (M++ [.arr g 185 [.slice a l.length c],.row 5 1 (.slice a l.length c) l.length (bv l)])
section
variable {w0 w w':World} {M:List Res} {g:Nat} {l:List UInt8}
theorem VB.same (h:VB w0 w M g l) (hc:Chg [] w w'):VB w0 w' M g l:=by obtain ⟨a,c,hS⟩:=h;exact ⟨a,c,hS.same hc⟩
theorem VB.chg (h:VB w0 w M g l):Chg [] w0 w:=by obtain ⟨a,c,hS⟩:=h;exact hS.chg
theorem VB.rest (h:VB w0 w M g l):St w0 [] w M:=by obtain ⟨a,c,hS⟩:=h;exact hS.sub (List.sublist_append_left _ _)
theorem VB.sub {N:List Res} (h:VB w0 w M g l) (hs:N.Sublist M):VB w0 w N g l:=by obtain ⟨a,c,hS⟩:=h;exact ⟨a,c,hS.sub (hs.append_right _)⟩
theorem VB.perm {a:Option Addr} {c:Nat} {r:Res} (h:St w0 [] w ((M++ [.arr g 185 [.slice a l.length c],.row 5 1 (.slice a l.length c) l.length (bv l)])++ [r])):VB w0 w (M++ [r]) g l:=by
 refine ⟨a,c,h.perm ?_⟩
 rw [List.append_assoc,List.append_assoc]
 exact List.Perm.append_left M (List.perm_append_comm (l₁:=[_,_]) (l₂:=[r]))
theorem VB.lits (h:VB w0 w M g l) (zs:List Int) (hn:zs.length≤1000):∃gl w1,(Instr.buildSlice 29 (iv zs).length (((iv zs).zipIdx 0).map fun p=>(p.2,p.1)).toArray).run Tryz.prog w=.ok (.slice (some ⟨gl,0,none⟩) (iv zs).length (iv zs).length) w1∧VB w0 w1 (M++ [.row 3 1 (.slice (some ⟨gl,0,none⟩) (iv zs).length (iv zs).length) (iv zs).length (iv zs)]) g l:=by
 obtain ⟨a,c,hS⟩:=h
 obtain ⟨gl,w1,r1,h1⟩:=hS.lit O1 (iv zs) (MJ zs) (by simp;omega)
 exact ⟨gl,w1,r1,VB.perm h1⟩
theorem VB.Da (h:VB w0 w M g l) (zs:List Int) (hn:zs.length≤1000) (hz:∀z∈zs,z≤9223372036854775807) (hb:l.length≤1000000000):∃gl w1,(Instr.buildSlice 29 (iv zs).length (((iv zs).zipIdx 0).map fun p=>(p.2,p.1)).toArray).run Tryz.prog w=.ok (.slice (some ⟨gl,0,none⟩) (iv zs).length (iv zs).length) w1∧
   Calls Tryz.prog 98 #[.pointer (some ⟨g,0,none⟩),.slice (some ⟨gl,0,none⟩) (iv zs).length (iv zs).length] w1 fun e w'=>e=.returned (.tuple #[])∧VB w0 w' M g (l++dm zs):=by
 obtain ⟨gl,w1,r1,a,c,hS⟩:=h.lits zs hn
 refine ⟨gl,w1,r1,(EG zs hz _ _ _ g a l.length c l hS (fun w' h=>h.rd (i:=M.length) List.getElem?_concat_length) (by omega)).mono ?_⟩
 rintro e w2 ⟨rfl,a',c',h2⟩
 have h3:VB w0 w2 (M++ [.row 3 1 (.slice (some ⟨gl,0,none⟩) (iv zs).length (iv zs).length) (iv zs).length (iv zs)]) g (l++dm zs):=⟨a',c',by rw [List.length_append];exact h2⟩
 exact ⟨rfl,h3.sub (List.sublist_append_left _ _)⟩
theorem VB.vars (h:VB w0 w M g l) (zs:List Int) (hn:zs.length≤1000) (hz:∀z∈zs,z≤9223372036854775807) (hb:l.length≤1000000000):∃gl w1,(Instr.buildSlice 29 (iv zs).length (((iv zs).zipIdx 0).map fun p=>(p.2,p.1)).toArray).run Tryz.prog w=.ok (.slice (some ⟨gl,0,none⟩) (iv zs).length (iv zs).length) w1∧
   Calls Tryz.prog 99 #[.pointer (some ⟨g,0,none⟩),.slice (some ⟨gl,0,none⟩) (iv zs).length (iv zs).length] w1 fun e w'=>e=.returned (.tuple #[])∧VB w0 w' M g (l++cQ zs):=by
 obtain ⟨gl,w1,r1,a,c,hS⟩:=h.lits zs hn
 refine ⟨gl,w1,r1,(EW zs hz _ _ _ g a l.length c l hS (fun w' h=>h.rd (i:=M.length) List.getElem?_concat_length) (by omega)).mono ?_⟩
 rintro e w2 ⟨rfl,a',c',h2⟩
 have h3:VB w0 w2 (M++ [.row 3 1 (.slice (some ⟨gl,0,none⟩) (iv zs).length (iv zs).length) (iv zs).length (iv zs)]) g (l++cQ zs):=⟨a',c',by rw [List.length_append];exact h2⟩
 exact ⟨rfl,h3.sub (List.sublist_append_left _ _)⟩
end

theorem Sx.St.Oh {w0 w:World} {X:List Nat} {M:List Res} (h:St w0 X w M) {i g T o n:Nat} {l:List Value} {x:List UInt8} (hi:M[i]?=some (.arr g T l)) (hx:(l.drop o).take n=bv x) (hn:x.length=n):RdB w (some ⟨g,o,none⟩) n n x:=by
 refine ⟨.inr ⟨g,o,rfl,fun j v hj=>?_⟩,by simp [hn],Nat.le_refl _,by simp⟩
 rw [←hx,List.getElem?_take] at hj
 split at hj
 · rw [List.getElem?_drop] at hj
   have:=h.kP hi (o+j) v hj
   rwa [Nat.zero_add] at this
 · cases hj
theorem VB.app {w0 w:World} {M:List Res} {g:Nat} {l x:List UInt8} {va a:Option Addr} {vc n c:Nat} (hS:St w0 [] w (M++ [.arr g 185 [.slice va l.length vc],.row 5 1 (.slice va l.length vc) l.length (bv l)])) (hr:RdB w a n c x) (hb:l.length+n≤140737488355000):
   ∃va' vc' w1 w2,(Builtin.append_ #[185,26] 185 #[.slice va l.length vc,.slice a n c]).run Tryz.prog w=.ok (.slice va' (l.length+n) vc') w1∧St w0 [] w1 (M++ [.arr g 185 [.slice va l.length vc]])∧(Instr.storeAt 185 (.pointer (some ⟨g,0,none⟩)) (.slice va' (l.length+n) vc')).run Tryz.prog w1=.ok () w2∧VB w0 w2 M g (l++x):=by
 have hn:=hr.bh
 have g0:∀(x y:Res),(M++ [x,y])[M.length]?=some x:=fun x y=>by rw [List.getElem?_append_right (Nat.le_refl _),Nat.sub_self];rfl
 have g1:∀(x y:Res),(M++ [x,y])[M.length+1]?=some y:=fun x y=>by rw [List.getElem?_append_right (by omega),Nat.add_sub_cancel_left];rfl
 obtain ⟨va',vc',w1,r1,h1⟩:=hS.bL (i:=M.length+1) (g1 _ _) hr hb
 rw [List.set_append_right _ _ (by omega),Nat.add_sub_cancel_left] at h1
 have h1:St w0 [] w1 (M++ [.arr g 185 [.slice va l.length vc],.row 5 1 (.slice va' (l.length+n) vc') (l.length+n) (bv (l++x))]):=h1
 obtain ⟨w2,r2,h2⟩:=h1.stL (i:=M.length) (o:=0) (off:=0) (T:=185) (v:=.slice va' (l.length+n) vc') (g0 _ _) (byS _) rfl (by simp) rfl
 rw [List.set_append_right _ _ (Nat.le_refl _),Nat.sub_self] at h2
 refine ⟨va',vc',w1,w2,by rw [uB];exact r1,h1.sub (List.Sublist.append_left (by simp) _),r2,va',vc',?_⟩
 rw [List.length_append,hn]
 exact h2
theorem GR {M:List Res} {x y r:Res} :((M++ [x,y])++ [r])[M.length+2]?=some r:=by
 rw [List.getElem?_append_right (by simp),List.length_append];simp
theorem Ge {M:List Res} {x y r r':Res} :((M++ [x,y])++ [r]).set (M.length+2) r'=(M++ [x,y])++ [r']:=by
 rw [List.set_append_right _ _ (by simp),List.length_append];simp
theorem MO (w:World):∃g w1 w2,(Instr.buildSlice 26 7 #[(0,.int .u8 99),(1,.int .u8 97),(2,.int .u8 116),(3,.int .u8 97),(4,.int .u8 108),(5,.int .u8 111),(6,.int .u8 103)]).run Tryz.prog w=.ok (.slice (some ⟨g,0,none⟩) 7 7) w1∧(convert 26 26 (.slice (some ⟨g,0,none⟩) 7 7)).run Tryz.prog w1=.ok (.slice (some ⟨g,0,none⟩) 7 7) w2∧Chg [] w w2∧RdB w2 (some ⟨g,0,none⟩) 7 7 Lm:=pQ Lm (by decide) w
theorem KB (x:List UInt8):bN [x]=iw x.length++x:=by simp [bN]

set_option maxHeartbeats 4000000 in
theorem xS (K:List UInt8) (hk:K.length=96) (C:bR) (sa:Option Addr) (sn sc:Nat) (pa:Option Addr) (pn pc:Nat) (w:World) (hK:cR w) (h:Bo w C sa sn sc pa pn pc) (ok:aH C=true→gE C):
   Calls Tryz.prog 35 #[.agg (bv K).toArray,.agg (bV C sa sn sc pa pn pc).toArray] w fun e w'=>∃a n c,e=.returned (.tuple #[.slice a n c,bk (if aH C then none else some 28)])∧aS w w' a n c (if aH C then jI K C else []):=by
 obtain ⟨mI,hI⟩:=eI
 have hsn:=h.snaps.num (by decide)
 have hpn:=h.aj.num (by decide)
 apply s9
 obtain ⟨g2,w1,r1,k1⟩:=(St.start w).b7 (P:=Tryz.prog) 41 (bv K)
 obtain ⟨g3,w2,r2,k2⟩:=k1.b7 (P:=Tryz.prog) 47 (bV C sa sn sc pa pn pc)
 have k2:St w [] w2 [.arr g2 41 (bv K),.arr g3 47 (bV C sa sn sc pa pn pc)]:=k2
 refine ⟨g2,w1,r1,g3,w2,r2,_,k2.ldA (i:=1) (l:=bV C sa sn sc pa pn pc) rfl (jM _) (fI _) rfl,(qL C sa sn sc pa pn pc w2 (h.an k2.chg)).mono ?_⟩
 rintro e w3 ⟨rfl,c3⟩
 have k3:=k2.same c3
 cases hc:aH C with
 | false=>exact ⟨_,rfl,_,au hI (some 28) _ _,fun _=>⟨none,0,0,rfl,k3.chg,rfl,World.ownsRow_nil _ _ _ _⟩,fun h=>by simp at h⟩
 | true=>
   have ok:=ok hc
   have hsn64:sn≤64:=by have:=ok.sn;omega
   have hpn1k:pn≤1024:=by have:=ok.pn;omega
   obtain ⟨g7,w4,r4,k4⟩:=k3.zero byZ
   obtain ⟨M,hM⟩:∃M:List Res,M=[.arr g2 41 (bv K),.arr g3 47 (bV C sa sn sc pa pn pc)]:=⟨_,rfl⟩
   have v4:VB w w4 M g7 []:=⟨none,0,by rw [hM];exact k4.b8 5 1⟩
   have M0:∀ {w'},St w [] w' M→St w [] w' [.arr g2 41 (bv K),.arr g3 47 (bV C sa sn sc pa pn pc)]:=fun h=>by rw [hM] at h;exact h
   have ldC:∀ {w'} (j:Nat) (T:TypeId) (v:Value),(isAgg T).run Tryz.prog w'=.ok false w'→(bV C sa sn sc pa pn pc)[j]?=some v→St w [] w' M→(Instr.loadAt T (.pointer (some ⟨g3,j,none⟩))).run Tryz.prog w'=.ok v w':=fun j T v hT hv h=>(M0 h).ldL (i:=1) (o:=j) rfl hT rfl hv
   have iA:∀w,(isAgg 3).run Tryz.prog w=.ok false w:=jQ
   have uA:∀w,(isAgg 42).run Tryz.prog w=.ok false w:=fun w=>Tryz.isAgg42 w
   have hz3:∀z∈ [C.gen,C.next,yP C.set],z≤9223372036854775807:=fun z hz=>by
     simp only [List.mem_cons,List.not_mem_nil,or_false] at hz
     rcases hz with rfl | rfl | rfl
     · exact ok.gen.2
     · exact ok.next.2
     · exact (Im _).2
   have n3:(dm [C.gen,C.next,yP C.set]).length=24:=by simp [dm,kF]
   obtain ⟨gl,w5,r5,c5⟩:=v4.Da [C.gen,C.next,yP C.set] (by simp) hz3 (by simp)
   refine ⟨_,rfl,_,au hI none _ _,fun h=>by simp at h,fun _=>⟨g7,w4,r4,_,ldC 0 _ _ (iA _) rfl v4.rest,_,ldC 1 _ _ (iA _) rfl v4.rest,_,ldC 2 _ _ (uA _) rfl v4.rest,_,_,_,w5,r5,c5.mono ?_⟩⟩
   rintro e w6 ⟨rfl,v6⟩
   rw [List.nil_append] at v6
   have hz5:∀z∈ [C.set.win,C.set.min,C.set.max,C.set.bits,(sn:Int)],z≤9223372036854775807:=fun z hz=>by
     simp only [List.mem_cons,List.not_mem_nil,or_false] at hz
     have:=ok.sn
     rcases hz with rfl | rfl | rfl | rfl | rfl
     · exact ok.set.1.2
     · exact ok.set.2.1.2
     · exact ok.set.2.2.1.2
     · exact ok.set.2.2.2.2
     · omega
   have n5:=lT hz5
   simp only [List.length_cons,List.length_nil] at n5
   obtain ⟨gl,w7,r7,c7⟩:=v6.vars [C.set.win,C.set.min,C.set.max,C.set.bits,(sn:Int)] (by simp) hz5 (by omega)
   refine ⟨rfl,_,ldC 3 _ _ (iA _) rfl v6.rest,_,ldC 4 _ _ (iA _) rfl v6.rest,_,ldC 5 _ _ (iA _) rfl v6.rest,_,ldC 6 _ _ (iA _) rfl v6.rest,_,_,_,ldC 7 _ _ (ssA _) rfl v6.rest,_,_,_,w7,r7,c7.mono ?_⟩
   rintro e w8 ⟨rfl,v8⟩
   obtain ⟨H,hH⟩:∃H,dm [C.gen,C.next,yP C.set]++cQ [C.set.win,C.set.min,C.set.max,C.set.bits,(sn:Int)]=H:=⟨_,rfl⟩
   have hHl:H.length≤69:=by rw [←hH,List.length_append];omega
   rw [hH] at v8
   refine ⟨rfl,_,_,_,ldC 7 _ _ (ssA _) rfl v8.rest,fun x w'=>∃i:Nat,x=(i:Int)∧i≤sn∧VB w w' M g7 (H++(C.snaps.take i).flatMap nv),fun x _=>sn-x.toNat,⟨0,rfl,by omega,by simpa using v8⟩,?_⟩
   rintro x w9 ⟨i,rfl,hi,v9⟩
   refine ⟨fun hlt=>?_,fun hge=>?_⟩
   · have hi':i<sn:=by simp at hlt;omega
     obtain ⟨s,hs⟩:∃s,C.snaps[i]?=some s:=⟨_,List.getElem?_eq_getElem (by omega)⟩
     have hsok:=ok.snaps s (List.mem_of_getElem? hs)
     obtain ⟨b,o,ha,q⟩:=h.snaps.ld (P:=Tryz.prog) (by decide) snA snS hs
     obtain ⟨P,hP⟩:∃P,H++(C.snaps.take i).flatMap nv=P:=⟨_,rfl⟩
     have hPl:P.length≤10000:=by
       have:=lq (f:=nv) (l:=C.snaps.take i) (k:=100) fun s hs=>pS (ok.snaps s (List.mem_of_mem_take hs))
       have h64:=ok.sn
       rw [List.length_take,Nat.min_eq_left (by omega)] at this
       rw [←hP,List.length_append];omega
     rw [hP] at v9
     obtain ⟨va,vc,hS9⟩:=v9
     have c9:=hS9.chg
     obtain ⟨g9,w10,r10,h10⟩:=hS9.az snZ
     obtain ⟨w11,r11,h11⟩:=h10.stA (i:=M.length+2) (v:=fH s) GR (snS _) (by simp) (iX s) (uM s)
     rw [Ge] at h11
     have v11:=(VB.perm h11).same (Chg.drew [] w11)
     obtain ⟨M',hM'⟩:∃M',M++ [.arr g9 89 (fH s)]=M':=⟨_,rfl⟩
     have e9:M'[M.length]?=some (.arr g9 89 (fH s)):=by rw [←hM'];exact List.getElem?_concat_length
     have Msub:M.Sublist M':=by rw [←hM'];exact List.sublist_append_left _ _
     rw [hM'] at v11
     clear va vc hS9 h10 h11
     obtain ⟨va,vc,hS⟩:=v11
     let S:World→Prop:=fun w'=>St w [] w' (M'++ [.arr g7 185 [.slice va P.length vc]])
     have toS:∀ {w' r},St w [] w' (M'++ [.arr g7 185 [.slice va P.length vc],r])→S w':=fun hw=>Sx.St.sub hw (List.Sublist.append_left (by simp) _)
     have e9':∀ {r},(M'++ [r])[M.length]?=some (.arr g9 89 (fH s)):=fun {r} =>by rw [List.getElem?_append_left (by rw [←hM'];simp)];exact e9
     have hSd:=toS hS
     obtain ⟨gn,cn,w12,r12,c12,q12,_⟩:=ug ⟨s.name.toArray⟩ s.name rfl w11.drew
     obtain ⟨gp,w13,r13,c13,q13,_⟩:=vl bbT [.slice (some ⟨gn,0,none⟩) s.name.length cn] (by simp [Value.oneCell']) (by simp) w12
     refine ⟨b,o,ha,by omega,by omega,_,by rw [Int.toNat_natCast];exact q w9 (h.snaps.an c9),g9,w10,r10,w11,r11,S,hSd,_,_,_,fun w' hw=>Sx.St.ldL hw (i:=M'.length) (o:=0) List.getElem?_concat_length (byA _) rfl rfl,_,fun w' hw=>Sx.St.ldL hw (i:=M.length) (o:=0) e9' (Gk _) rfl rfl,_,_,_,w12,r12,S,fun _ h=>h,Sx.St.same hSd c12,_,_,_,w13,r13,S,fun _ h=>h,Sx.St.same hSd (c12.trans c13),(pO _ 1 1 _ [s.name] w13 q13 (dU (q12.an c13)) (by simp;omega) (by simp)).mono ?_⟩
     rintro e w14 ⟨pa',pn',pc',rfl,f14⟩
     have h14:=hS.same ((c12.trans c13).trans f14.1)
     have hpl:pn'≤40:=by have:=f14.rdB.bh;rw [KB,iZ (by omega)] at this;simp at this;omega
     obtain ⟨ua,uc,w15,w16,r15,h15,r16,v16⟩:=VB.app h14 f14.rdB (by omega)
     have hz1:∀z∈ [s.time],z≤9223372036854775807:=fun z hz=>by
       simp only [List.mem_cons,List.not_mem_nil,or_false] at hz
       rw [hz];exact hsok.2.1.2
     have hz2:∀z∈ [s.size,s.chunks],z≤9223372036854775807:=fun z hz=>by
       simp only [List.mem_cons,List.not_mem_nil,or_false] at hz
       rcases hz with rfl | rfl
       · exact hsok.2.2.1.2
       · exact hsok.2.2.2.2
     have l1:(bN [s.name]).length≤40:=by rw [KB,iZ (by omega)];simp;omega
     have l2:(dm [s.time]).length=8:=by simp [dm,kF]
     have l3:=lT hz2
     simp only [List.length_cons,List.length_nil] at l3
     obtain ⟨gl,w17,r17,c17⟩:=v16.Da [s.time] (by simp) hz1 (by rw [List.length_append];omega)
     refine ⟨_,_,_,rfl,S,fun _ h=>h,toS h14,ua,_,uc,w15,r15,S,fun _ h=>h,h15,w16,r16,_,v16.rest.ldL (i:=M.length) (o:=1) e9 (jQ _) rfl rfl,_,_,_,w17,r17,c17.mono ?_⟩
     rintro e w18 ⟨rfl,v18⟩
     obtain ⟨gl,w19,r19,c19⟩:=v18.vars [s.size,s.chunks] (by simp) hz2 (by rw [List.length_append,List.length_append];omega)
     refine ⟨rfl,_,v18.rest.ldL (i:=M.length) (o:=2) e9 (jQ _) rfl rfl,_,v18.rest.ldL (i:=M.length) (o:=3) e9 (jQ _) rfl rfl,_,_,_,w19,r19,c19.mono ?_⟩
     rintro e w20 ⟨rfl,v20⟩
     obtain ⟨Q,hQ⟩:∃Q,P++bN [s.name]++dm [s.time]++cQ [s.size,s.chunks]=Q:=⟨_,rfl⟩
     have hQl:Q.length≤11000:=by rw [←hQ,List.length_append,List.length_append,List.length_append];omega
     rw [hQ] at v20
     obtain ⟨ya,yc,hY⟩:=v20.same (Chg.drew [] w20)
     have rdY:RdB w20.drew (some ⟨g9,4,none⟩) 32 32 s.root:=(hY.sub (List.sublist_append_left _ _)).Oh (i:=M.length) (o:=4) (n:=32) e9 (by show List.take 32 (bv s.root)=_;rw [List.take_of_length_le (by simp [s.rl])]) s.rl
     obtain ⟨za,zc,w21,w22,r21,h21,r22,v22⟩:=VB.app hY rdY (by omega)
     refine ⟨rfl,fun w'=>St w [] w' (M'++ [.arr g7 185 [.slice ya Q.length yc]]),hY.sub (List.Sublist.append_left (by simp) _),by omega,by omega,_,_,_,fun w' hw=>Sx.St.ldL hw (i:=M'.length) (o:=0) List.getElem?_concat_length (byA _) rfl rfl,za,_,zc,w21,r21,_,fun _ h=>h,h21,w22,r22,⟨i+1,aq hi' (by omega),by omega,?_⟩,aB hi' (by omega)⟩
     have e:H++(C.snaps.take (i+1)).flatMap nv=Q++s.root:=by
       rw [←hQ,←hP,List.take_add_one,hs,List.flatMap_append]
       simp [nv,KB,dm,List.append_assoc]
     rw [e]
     exact v22.sub Msub
   · have hi':i=sn:=by simp at hge;omega
     rw [hi',←hsn,List.take_length] at v9
     obtain ⟨P,hP⟩:∃P,H++C.snaps.flatMap nv=P:=⟨_,rfl⟩
     have hPl:P.length≤10000:=by
       have:=lq (f:=nv) (l:=C.snaps) (k:=100) fun s hs=>pS (ok.snaps s hs)
       have h64:=ok.sn
       rw [←hP,List.length_append];omega
     rw [hP] at v9
     have hpk:=ok.pn
     have hz1:∀z∈ [(pn:Int)],z≤9223372036854775807:=fun z hz=>by
       simp only [List.mem_cons,List.not_mem_nil,or_false] at hz
       omega
     have l1:=lT hz1
     simp only [List.length_cons,List.length_nil] at l1
     obtain ⟨gl,w23,r23,c23⟩:=v9.vars [(pn:Int)] (by simp) hz1 (by omega)
     refine ⟨_,_,_,ldC 8 _ _ (psA _) rfl v9.rest,_,_,_,w23,r23,c23.mono ?_⟩
     rintro e w24 ⟨rfl,v24⟩
     obtain ⟨Q,hQ⟩:∃Q,P++cQ [(pn:Int)]=Q:=⟨_,rfl⟩
     have hQl:Q.length≤10010:=by rw [←hQ,List.length_append];omega
     rw [hQ] at v24
     refine ⟨rfl,_,_,_,ldC 8 _ _ (psA _) rfl v24.rest,fun x w'=>∃i:Nat,x=(i:Int)∧i≤pn∧VB w w' M g7 (Q++(C.aj.take i).flatMap pkB),fun x _=>pn-x.toNat,⟨0,rfl,by omega,by simpa using v24⟩,?_⟩
     rintro x w25 ⟨i,rfl,hi,v25⟩
     refine ⟨fun hlt=>?_,fun hge=>?_⟩
     · have hi':i<pn:=by simp at hlt;omega
       obtain ⟨p,hp⟩:∃p,C.aj[i]?=some p:=⟨_,List.getElem?_eq_getElem (by omega)⟩
       have hpok:=ok.aj p (List.mem_of_getElem? hp)
       obtain ⟨b,o,ha,q⟩:=h.aj.ld (P:=Tryz.prog) (by decide) pqA pqS hp
       have hTl:(Q++(C.aj.take i).flatMap pkB).length≤40000:=by
         have:=lq (f:=pkB) (l:=C.aj.take i) (k:=27) fun p hp=>B8 (ok.aj p (List.mem_of_mem_take hp))
         rw [List.length_take,Nat.min_eq_left (by omega)] at this
         rw [List.length_append];omega
       have c25:=v25.chg
       obtain ⟨va,vc,hS9⟩:=v25
       obtain ⟨g11,w26,r26,h26⟩:=hS9.az pqZ
       obtain ⟨w27,r27,h27⟩:=h26.stA (i:=M.length+2) (v:=pkC p) GR (pqS _) (by simp) rfl (by simp [pkC,Value.oneCell'])
       rw [Ge] at h27
       have v27:=VB.perm h27
       have ldP:∀(j:Nat) (v:Value),(pkC p)[j]?=some v→(Instr.loadAt 3 (.pointer (some ⟨g11,j,none⟩))).run Tryz.prog w27=.ok v w27:=fun j v hv=>v27.rest.ldL (i:=M.length) (o:=j) List.getElem?_concat_length (jQ _) rfl hv
       have hz3:∀z∈ [p.num,p.size,p.count],z≤9223372036854775807:=fun z hz=>by
         simp only [List.mem_cons,List.not_mem_nil,or_false] at hz
         rcases hz with rfl | rfl | rfl
         · exact hpok.1.2
         · exact hpok.2.1.2
         · exact hpok.2.2.2
       obtain ⟨gl,w28,r28,c28⟩:=v27.vars [p.num,p.size,p.count] (by simp) hz3 (by omega)
       refine ⟨b,o,ha,by omega,by omega,_,by rw [Int.toNat_natCast];exact q w25 (h.aj.an c25),g11,w26,r26,w27,r27,_,ldP 0 _ rfl,_,ldP 1 _ rfl,_,ldP 2 _ rfl,_,_,_,w28,r28,c28.mono ?_⟩
       rintro e w29 ⟨rfl,v29⟩
       refine ⟨rfl,⟨i+1,aq hi' (by omega),by omega,?_⟩,aB hi' (by omega)⟩
       have e:Q++(C.aj.take (i+1)).flatMap pkB=Q++(C.aj.take i).flatMap pkB++cQ [p.num,p.size,p.count]:=by
         rw [List.take_add_one,hp,List.flatMap_append]
         simp [pkB,List.append_assoc]
       rw [e]
       exact v29.sub (List.sublist_append_left _ _)
     · have hi':i=pn:=by simp at hge;omega
       rw [hi',←hpn,List.take_length] at v25
       have hall:Q++C.aj.flatMap pkB=mA C:=by
         rw [←hQ,←hP,←hH,mA,hsn,hpn]
         simp [List.append_assoc]
       rw [hall] at v25
       have hpl:=Ah ok
       obtain ⟨gc,w30,w31,r30,r31,c31,q31⟩:=MO w25
       obtain ⟨va,vc,hS⟩:=v25
       have hS31:=hS.same c31
       have hrow:RdB w31 va (mA C).length vc (mA C):=hS31.rd (i:=M.length+1) (by rw [List.getElem?_append_right (by omega),Nat.add_sub_cancel_left];rfl)
       refine ⟨_,(M0 (hS.sub (List.sublist_append_left _ _))).ldA (i:=0) (l:=bv K) rfl (tV _) (qF _) (by simp [hk]),_,_,_,w30,r30,_,_,_,w31,r31,_,_,_,hS31.ldL (i:=M.length) (o:=0) (by rw [List.getElem?_append_right (Nat.le_refl _),Nat.sub_self];rfl) (byA _) rfl rfl,(pL K 4 _ 7 7 Lm _ _ _ (mA C) w31 hk (hK.an hS31.chg) q31 hrow (by omega)).mono ?_⟩
       rintro e w32 ⟨ra,rn,rc,rfl,f32⟩
       exact ⟨ra,rn,rc,rfl,ra,rn,rc,rfl,f32.after hS31.chg⟩

end Go.Proofs.YtpmhjnhgpplmnaaGreatDoor
end

section
namespace Go.Proofs.YtpmhjnhgpplmnaaGreatDoor
open Go Sx
set_option maxRecDepth 8000

section
variable {w w1 w':World} {g:Nat} {a0:Option Addr} {n0 c0:Nat} {l:List UInt8} {st:Option (List UInt8)} {N N':List Res}
end

theorem rdA (w:World):(isAgg 201).run Tryz.prog w=.ok true w:=Tryz.isAgg201 w
def Od:gJ:=⟨0,0,0,0,0⟩
def CQ:bR:=⟨0,0,Od,[],[]⟩
theorem HT:Tryz.prog.built 47=fun parts=>Instr.fill (fun i=>(#[(0,1),(1,1),(2,5),(7,1),(8,1)]:Array (Nat×Nat))[i]?) gQ.toArray parts:=by kernel_rfl
theorem EP (w:World):(Instr.build 47 #[]).run Tryz.prog w=.ok (.agg gQ.toArray) w:=by
 apply run_build
 rw [HT]
 rfl
theorem Iu:Tryz.prog.built 44=fun parts=>Instr.fill (fun i=>(#[(0,1),(1,1),(2,1),(3,1),(4,1)]:Array (Nat×Nat))[i]?) (cq Od).toArray parts:=by kernel_rfl
theorem HY (s:gJ) (w:World):(Instr.build 44 #[(0,.int .u64 (s.poly:Int)),(1,.int .i64 s.win),(2,.int .i64 s.min),(3,.int .i64 s.max),(4,.int .i64 s.bits)]).run Tryz.prog w=.ok (.agg (cq s).toArray) w:=by
 apply run_build
 rw [Iu]
 show Instr.fill _ _ [(0,_),(1,_),(2,_),(3,_),(4,_)]=_
 rw [aA (off:=0) (sz:=1) rfl rfl (by simp [Value.cells,cq]),aA (off:=1) (sz:=1) rfl rfl (by simp [Value.cells,cq]),aA (off:=2) (sz:=1) rfl rfl (by simp [Value.cells,cq]),
   aA (off:=3) (sz:=1) rfl rfl (by simp [Value.cells,cq]),aA (off:=4) (sz:=1) rfl rfl (by simp [Value.cells,cq])]
 rfl
end Go.Proofs.YtpmhjnhgpplmnaaGreatDoor
end

section
namespace Go.Proofs.YtpmhjnhgpplmnaaGreatDoor
open Go Go.RowKit Go.Extern.Stop Go.Stop Go.Extern
set_option maxRecDepth 8000

theorem E0 (v:Value) (w:World):(Extern.ReflectliteType.typeOf #[.iface 65 v]).run Tryz.prog w=.ok (.iface 346 (.agg #[.pointer (some ⟨7,65,none⟩)])) w:=by kernel_rfl
def N1:Array Value→Sem Value:=Extern.ReflectliteType.method fun t=>do Extern.Rtype.noPackHeld "Comparable" t;pure (.bool (←typeInfo t).comparable)
theorem yu (w:World):(N1 #[.agg #[.pointer (some ⟨7,65,none⟩)]]).run Tryz.prog w=.ok (.bool true) w:=by kernel_rfl
theorem rM (v:Value) (w:World):(Go.method 614 346 v "Comparable").run Tryz.prog w=.ok (406,v) w:=by kernel_rfl
theorem ME (v:Value) (xT:TypeId) (w:World):(Instr.typeAssert (.iface 65 v) xT 348 true).run Tryz.prog w=.ok (.tuple #[.nilIface,.bool false]) w:=run_typeAssert_lacksB Tryz.underlying348 (by kernel_rfl) (by kernel_rfl) v xT w
theorem EN (v:Value) (xT:TypeId) (w:World):(Instr.typeAssert (.iface 65 v) xT 351 true).run Tryz.prog w=.ok (.tuple #[.nilIface,.bool false]) w:=run_typeAssert_lacksB Tryz.underlying351 (by kernel_rfl) (by kernel_rfl) v xT w
theorem CC (v:Value) (xT:TypeId) (w:World):(Instr.typeAssert (.iface 65 v) xT 352 true).run Tryz.prog w=.ok (.tuple #[.nilIface,.bool false]) w:=run_typeAssert_lacksB Tryz.underlying352 (by kernel_rfl) (by kernel_rfl) v xT w
theorem Ot (k n:Int) (w:World):(binOp .eql 58 (.iface 65 (.int .i64 k)) (.iface 65 (.int .i64 n))).run Tryz.prog w=.ok (.bool (k==n)) w:=by
 have hE:=Tryz.underlying65
 have hT:=Tryz.underlying58
 have hI:(typeInfo 65).run Tryz.prog w=.ok Tryz.t65 w:=by
   simp [typeInfo,show Tryz.prog.info? 65=some Tryz.t65 by kernel_rfl]
 have hc:Tryz.t65.comparable=true:=by kernel_rfl
 have h1:∀d k,(Op.equalIn (d+2) 58 (.iface 65 (.int .i64 k)) (.iface 65 (.int .i64 n))).run Tryz.prog w=.ok (k==n) w:=fun d k=>by
   simp [Op.equalIn,run_underlying hT,run_underlying hE,hI,hc]
 simp [binOp,Op.equal,show Op.maxDepth=9998+2 from rfl,h1 9998]

theorem J5 (n:Int) (w:World):
   Calls Tryz.prog 90 #[.nilIface,.iface 65 (.int .i64 n)] w fun e w'=>e=.returned (.bool false)∧w'=w:=by
 have hn:=run_eql_iface_nil_left (P:=Tryz.prog) w 65 (.int .i64 n) Tryz.underlying58
 go_enter Tryz.func90,Tryz.ntmps90
 go_wp2
 go_ret
 exact ⟨rfl,rfl⟩
theorem NI (k n:Int) (w:World):
   Calls Tryz.prog 90 #[.iface 65 (.int .i64 k),.iface 65 (.int .i64 n)] w fun e w'=>e=.returned (.bool (k==n))∧w'=w:=by
 have h8:= @run_callFunc_extern Tryz.prog 184 _ Extern.ReflectliteType.typeOf Tryz.func184 (by kernel_rfl) (by kernel_rfl) (by kernel_rfl) (by kernel_rfl)
 have h32:= @run_callFunc_extern Tryz.prog 406 _ N1 Tryz.func406 (by kernel_rfl) (by kernel_rfl) (by kernel_rfl) (by kernel_rfl)
 have tT:=E0
 have cT:=yu
 have mR:=rM
 have nE:=ME
 have uE:=EN
 have vE:=CC
 have heq:=Ot k n w
 cases hb:(k==n) with
 | true=>
   rw [hb] at heq
   go_enter Tryz.func90,Tryz.ntmps90
   go_wp2
   refine wp_loop_rounds 1 ?_
   rw [rounds_succ]
   go_wp2
   go_ret
   exact ⟨rfl,rfl⟩
 | false=>
   rw [hb] at heq
   go_enter Tryz.func90,Tryz.ntmps90
   go_wp2
   refine wp_loop_rounds 1 ?_
   rw [rounds_succ]
   go_wp2
   go_ret
   exact ⟨rfl,rfl⟩

open Sx in
theorem kA (o:Option Int) (n:Int) (w:World):Calls Tryz.prog 90 #[bk o,.iface 65 (.int .i64 n)] w fun e w'=>e=.returned (.bool (decide (o=some n)))∧w'=w:=by
 cases o with
 | none=>exact J5 n w
 | some k=>
   refine (NI k n w).mono ?_
   rintro e w' ⟨rfl,rfl⟩
   have:decide (some k=some n)=(k==n):=by rw [Bool.eq_iff_iff];simp
   rw [this]
   exact ⟨rfl,rfl⟩

end Go.Proofs.YtpmhjnhgpplmnaaGreatDoor
end

section
namespace Go.Proofs.YtpmhjnhgpplmnaaGreatDoor
open Go Sx
set_option maxRecDepth 8000

structure FV where
 name:Nm
 a:Option Addr
 c:Nat
 data:List UInt8
def FV.cells (v:FV):List Value:=[aJ v.name,.slice v.a v.data.length v.c]
def FV.row (v:FV):Res:=.row 5 1 (.slice v.a v.data.length v.c) v.data.length (bv v.data)
def FV.t (v:FV):Nm×List UInt8:=(v.name,v.data)
section
variable {w0 w w':World} {X:List Nat} {N N':List Res} {gd:Nat} {ps:List Nat} {m:af}

end

end Go.Proofs.YtpmhjnhgpplmnaaGreatDoor
end

section
namespace Go.Proofs.YtpmhjnhgpplmnaaGreatDoor
open Go Sx
set_option maxRecDepth 8000

theorem NG (w:World):eL w [] []:=⟨rfl,by simp⟩
theorem FC {w:World} {vs:List Value} {ls:List (List UInt8)} {a:Option Addr} {n c:Nat} {l:List UInt8} (h:RdB w a n c l) (h2:eL w vs ls):eL w (.slice a n c::vs) (l::ls):=by
 refine ⟨by simp [h2.len],fun i hi=>?_⟩
 cases i with
 | zero=>exact ⟨a,n,c,rfl,h⟩
 | succ i=>exact h2.rd i (by simpa using hi)

section
variable {w0 w w':World} {X:List Nat} {N N' T:List Res} {gd:Nat} {ps:List Nat} {m:af}

theorem mz (h:ah w0 X w gd ps m N):Calls Tryz.prog 80 #[.pointer (some ⟨gd,0,none⟩)] w fun e w'=>∃a c,e=.returned (.slice a (cw m).length c)∧St w [] w' [.row 9 1 (.slice a (cw m).length c) (cw m).length ((cw m).map aJ)]:=by
 obtain ⟨p,hps,hp,hS⟩:=h
 exact HF hp.mem hS
end

end Go.Proofs.YtpmhjnhgpplmnaaGreatDoor
end

section
namespace Go.Proofs.YtpmhjnhgpplmnaaGreatDoor
open Go Sx
set_option maxRecDepth 8000

def aP (r:af×Option Int) (f:af→af×Option Int):af×Option Int:=match r.2 with
 | some e=>(r.1,some e)
 | none=>f r.1
def tN:Nm:=[116]
def vk (m:af) (n:Nm):Bool:=(cw m).contains n
def As (e:Int):Int:=if e=1 then 1 else 22
def kQ (n:Nm) (e:Int) (m:af):af×Option Int:=match (aL m n).2 with
 | some x=>((aL m n).1,some (As x))
 | none=>match (aK (aL m n).1).2 with
   | some x=>((aK (aL m n).1).1,some (As x))
   | none=>((aK (aL m n).1).1,some e)
def C2 (n:Nm) (m:af):af×Option Int:=match (aK m).2 with
 | none=>((aK m).1,none)
 | some e=>if e=1 then ((aK m).1,some 1) else kQ n e (aK m).1
def vr (b:List UInt8) (n:Nm) (i:Nat) (m:af):af×Option Int:=match i with
 | 0=>aM m tN
 | 1=>aO m tN [b]
 | 2=>cV m tN
 | 3=>aK m
 | _=>ey m tN n
def wv (b:List UInt8) (n:Nm):Nat→af→af×Option Int
 | 0,m=>C2 n m
 | k+1,m=>aP (vr b n (4-k) m) (wv b n k)
def bf (n:Nm) (m:af):af×Option Int:=if vk m n then aL m n else (m,none)
noncomputable def aW (K:List UInt8) (C:bR) (m:af):af×Option Int:=
 if aH C then aP (bf tN m) (wv (jI K C) (aV 99 C.gen) 5) else (m,some 28)

def Cnt (k:Nat) (m m':af):Prop:=m'.steps≤m.steps+k∧m'.chs.length≤m.chs.length+k
theorem Cnt.refl (m:af):Cnt 0 m m:=⟨Nat.le_refl _,Nat.le_refl _⟩
theorem Cnt.trans {j k:Nat} {a b c:af} (h:Cnt j a b) (h2:Cnt k b c):Cnt (j+k) a c:=⟨by have:=h.1;have:=h2.1;omega,by have:=h.2;have:=h2.2;omega⟩
theorem Cnt.mono {j k:Nat} {a b:af} (h:Cnt j a b) (hk:j≤k):Cnt k a b:=⟨by have:=h.1;omega,by have:=h.2;omega⟩
theorem KK (m:af):Cnt 1 m (bp m).1:=by
 unfold bp Cnt
 split
 · exact ⟨Nat.le_succ _,Nat.le_succ _⟩
 · split<;>exact ⟨Nat.le_refl _,Nat.le_succ _⟩
theorem jZ (m:af) {f:af→af} (hf:∀m,(f m).steps=m.steps∧(f m).chs.length≤m.chs.length+1):Cnt 1 m (aU m f).1:=by
 have h:=KK m
 have hc:(bp m).1.chs=m.chs:=by
   unfold bp
   split
   · rfl
   · split<;>rfl
 unfold aU
 split
 · exact h
 · have:=hf (bp m).1
   refine ⟨by have:=h.1;show (f (bp m).1).steps≤_;omega,?_⟩
   rw [hc] at this
   exact this.2
theorem wU (m:af) (c:ChM):(iS m c).steps=m.steps∧(iS m c).chs.length≤m.chs.length+1:=⟨rfl,by simp [iS]⟩
theorem rT (m:af) (n:Nm):Cnt 1 m (aM m n).1:=by
 unfold aM
 split
 · exact (Cnt.refl m).mono (by omega)
 · split
   · exact (Cnt.refl m).mono (by omega)
   · split
     · exact (Cnt.refl m).mono (by omega)
     · exact jZ m fun m=>wU m _
theorem rI (m:af) (n:Nm) (ps:List (List UInt8)):Cnt 1 m (aO m n ps).1:=by
 unfold aO
 split
 · exact (Cnt.refl m).mono (by omega)
 · split
   · exact jZ m fun m=>⟨rfl,Nat.le_succ _⟩
   · exact (Cnt.refl m).mono (by omega)
theorem yY (m:af) (n:Nm):Cnt 1 m (cV m n).1:=by
 unfold cV
 split
 · exact (Cnt.refl m).mono (by omega)
 · exact jZ m fun m=>⟨rfl,Nat.le_succ _⟩
theorem kX (m:af):Cnt 1 m (aK m).1:=by
 unfold aK
 split
 · exact (Cnt.refl m).mono (by omega)
 · exact jZ m fun m=>⟨rfl,by simp [fO]⟩
theorem Fb (m:af) (a b:Nm):Cnt 1 m (ey m a b).1:=by
 unfold ey
 split
 · exact (Cnt.refl m).mono (by omega)
 · split
   · exact (Cnt.refl m).mono (by omega)
   · exact jZ m fun m=>wU m _
theorem rW (m:af) (n:Nm):Cnt 1 m (aL m n).1:=by
 unfold aL
 split
 · exact (Cnt.refl m).mono (by omega)
 · exact jZ m fun m=>wU m _
theorem Ar (b:List UInt8) (n:Nm) (i:Nat) (m:af):Cnt 1 m (vr b n i m).1:=by
 unfold vr
 split
 · exact rT _ _
 · exact rI _ _ _
 · exact yY _ _
 · exact kX _
 · exact Fb _ _ _
theorem lR (n:Nm) (m:af):Cnt 1 m (bf n m).1:=by
 unfold bf
 split
 · exact rW _ _
 · exact (Cnt.refl m).mono (by omega)

theorem Dq (a:Option Addr) (n c:Nat) (ns:List Nm) (x:Nm) (w:World) (hr:Rd w a n c 1 (ns.map aJ)) (hb:n≤4611686018427387904):
   Calls Tryz.prog 183 #[.slice a n c,aJ x] w fun e w'=>∃t:Int,e=.returned (.int .i64 t)∧decide (t≥0)=ns.contains x∧w'=w:=by
 have hln:ns.length=n:=by have:=hr.len;simpa using this
 apply jx
 refine ⟨fun y w'=>∃i:Nat,y=(i:Int)∧i≤n∧(ns.take i).contains x=false∧w'=w,fun y _=>n-y.toNat,⟨0,rfl,by omega,by simp,rfl⟩,?_⟩
 rintro y w1 ⟨i,rfl,hi,hno,rfl⟩
 refine ⟨fun h=>?_,fun h=>?_⟩
 · have hi':i<n:=by simp at h;omega
   obtain ⟨s,hs⟩:∃s,ns[i]?=some s:=⟨_,List.getElem?_eq_getElem (by omega)⟩
   obtain ⟨b,o,ha,hc⟩:=hr.cells.at_ (i:=i) (v:=aJ s) (by rw [List.getElem?_map,hs];rfl)
   refine ⟨b,o,ha,by omega,by omega,_,by rw [Int.toNat_natCast,Nat.mul_one];exact ld1 (DD _) hc,fun h=>?_,fun h=>⟨⟨i+1,aq hi' hb,by omega,?_,rfl⟩,aB hi' hb⟩⟩
   · rw [ByteArray.toList_eq,ByteArray.toList_eq] at h
     have:x=s:=by simpa using h
     refine ⟨_,rfl,?_,rfl⟩
     have hm:ns.contains x=true:=by rw [List.contains_iff_mem,this];exact List.mem_of_getElem? hs
     rw [hm];simp
   · rw [ByteArray.toList_eq,ByteArray.toList_eq] at h
     have hne:x≠s:=by simpa using h
     rw [List.take_add_one,hs]
     rw [←Bool.not_eq_true,List.contains_iff_mem] at hno ⊢
     simp only [Option.toList,List.mem_append,List.mem_singleton,not_or]
     exact ⟨hno,hne⟩
 · have hi':i=n:=by simp at h;omega
   rw [hi',←hln,List.take_length] at hno
   exact ⟨_,rfl,by rw [hno];simp,rfl⟩
theorem pq (a:Option Addr) (n c:Nat) (ns:List Nm) (x:Nm) (w:World) (hr:Rd w a n c 1 (ns.map aJ)) (hb:n≤4611686018427387904):
   Calls Tryz.prog 88 #[.slice a n c,aJ x] w fun e w'=>e=.returned (.bool (ns.contains x))∧w'=w:=by
 apply ij
 refine (Dq a n c ns x w hr hb).mono ?_
 rintro e w' ⟨t,rfl,h1,rfl⟩
 exact ⟨t,rfl,by rw [h1],rfl⟩

end Go.Proofs.YtpmhjnhgpplmnaaGreatDoor
end
