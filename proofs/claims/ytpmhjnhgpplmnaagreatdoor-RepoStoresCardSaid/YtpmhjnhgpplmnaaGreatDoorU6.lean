/- The proof of RepoStoresCardSaid, part 6: what it rests on (conditions: those that each theorem names). -/
import Derived.Test.YtpmhjnhgpplmnaaGreatDoorU5
import Derived.Laws.Externs
import Derived.Lib.BytesEntry
import Derived.Sort.Grow
import Derived.Sort.Row
import Derived.Deep.Draws
import Derived.Shelf.SlGeneric
import Derived.Shelf.SlSortCmp.WholeK
import Derived.Ground.SlsfProg
import Derived.Test.YtpmhjnhgpplmnaaGreatDoorProg
import Derived.Shelf.SlSortCmp.NoneTotal
section
namespace Go.Proofs.YtpmhjnhgpplmnaaGreatDoor
open Go Sx
set_option maxRecDepth 8000

def cmpL (l m:List UInt8):Int:=match (List.range (min l.length m.length)).find? fun i=>l.getD i 0 != m.getD i 0 with
 | some i=>if l.getD i 0<m.getD i 0 then-1 else 1
 | none=>if l.length<m.length then-1 else if l.length>m.length then 1 else 0

theorem Cx:∀l m,cmpL l m=gI l m
 | [],[]=>by simp [cmpL,gI,lexLt]
 | [],b::m=>by simp [cmpL,gI,lexLt]
 | a::l,[]=>by simp [cmpL,gI,lexLt]
 | a::l,b::m=>by
   have ih:=Cx l m
   have e:min (a::l).length (b::m).length=min l.length m.length+1:=by simp only [List.length_cons];omega
   by_cases h:a=b
   · subst h
     have h1:gI (a::l) (a::m)=gI l m:=by simp [gI,lexLt]
     rw [h1,←ih]
     unfold cmpL
     rw [e,List.range_succ_eq_map,List.find?_cons]
     simp only [List.getD_cons_zero,bne_self_eq_false,List.find?_map]
     have h2:((fun i=>(a::l).getD i 0 != (a::m).getD i 0)∘Nat.succ)=fun i=>l.getD i 0 != m.getD i 0:=by
       funext i;simp only [Function.comp_apply,Nat.succ_eq_add_one,List.getD_cons_succ]
     rw [h2]
     cases (List.range (min l.length m.length)).find? fun i=>l.getD i 0 != m.getD i 0 with
     | none=>simp
     | some i=>simp only [Option.map_some,Nat.succ_eq_add_one,List.getD_cons_succ]
   · unfold cmpL
     rw [e,List.range_succ_eq_map,List.find?_cons]
     have hb:(a != b)=true:=by simpa using h
     simp only [List.getD_cons_zero,hb]
     have hn:a.toNat≠b.toNat:=fun e=>h (UInt8.toNat_inj.1 e)
     unfold gI
     simp only [lexLt,UInt8.lt_iff_toNat_lt]
     by_cases hlt:a.toNat<b.toNat
     · simp [hlt]
     · simp [hlt,show b.toNat<a.toNat by omega]

theorem Fe (l m:List UInt8):Extern.BytealgCompare.cmp ⟨l.toArray⟩ ⟨m.toArray⟩=cmpL l m:=by
 have g:∀(q:List UInt8) (i:Nat),(⟨q.toArray⟩:ByteArray)[i]! =q.getD i 0:=by
   intro q i
   by_cases h:i<q.length
   · have h2:i<(⟨q.toArray⟩:ByteArray).size:=by simpa [ByteArray.size] using h
     rw [getElem!_pos _ i h2]
     show (q.toArray)[i]'(by simpa using h)=_
     simp [List.getD,h]
   · have h2:¬i<(⟨q.toArray⟩:ByteArray).size:=by simpa [ByteArray.size] using h
     rw [getElem!_neg _ i h2]
     simp [List.getD,h]
     rfl
 unfold Extern.BytealgCompare.cmp cmpL
 simp only [g,ByteArray.size,List.size_toArray]
 cases List.find? (fun i=>l.getD i 0 != m.getD i 0) (List.range (min l.length m.length))<;>rfl

theorem vP {P:Program} {w:World} {a:Option Addr} {c n:Nat} {l:List UInt8} (hc:Cells w a (bv l)) (hn:l.length=n):(Extern.Bytes.bytesOf (.slice a n c)).run P w=.ok ⟨l.toArray⟩ w:=by
 subst hn
 cases a with
 | none=>
   have hl:l=[]:=by
     rcases hc with h | ⟨b,o,h,_⟩
     · cases l with
       | nil=>rfl
       | cons x y=>simp [bv] at h
     · cases h
   subst hl
   rfl
 | some ad=>
   have h1:∀(j:Nat) (x:Int),(l.map fun b=>(b.toNat:Int))[j]?=some x→w.cell? (ad.add j)=some (.int .u8 x):=by
     intro j x hx
     rw [List.getElem?_map] at hx
     cases hq:l[j]? with
     | none=>rw [hq] at hx;cases hx
     | some y=>
       rw [hq] at hx
       simp only [Option.map_some,Option.some.injEq] at hx
       subst hx
       obtain ⟨b,o,ha,hcell⟩:=hc.at_ (i:=j) (v:=.int .u8 (y.toNat:Int)) (by rw [FM,hq];rfl)
       simp only [Option.some.injEq] at ha
       subst ha
       rw [Addr.add_mid]
       exact hcell
   have:=Lib.run_loadBytesX (P:=P) (w:=w) (l.map fun b=>(b.toNat:Int)) ad .empty h1
   rw [List.length_map] at this
   simp only [Extern.Bytes.bytesOf]
   rw [this]
   have e:Lib.bytesOf (l.map fun b=>(b.toNat:Int))=l:=by
     simp [Lib.bytesOf,Function.comp_def]
   rw [e]
   simp

theorem sN (a a2:Option Addr) (n c n2 c2:Nat) (l m:List UInt8) (w:World) (h1:Cells w a (bv l)) (hl:l.length=n) (h2:Cells w a2 (bv m)) (hm:m.length=n2):
   Calls Tryz.prog 217 #[.slice a n c,.slice a2 n2 c2] w fun e w'=>e=.returned (.int .i64 (gI l m))∧w'=w:=by
 apply uH
 refine ⟨gI l m,w,?_,rfl,rfl⟩
 rw [run_callFunc_extern Tryz.func289 (by kernel_rfl) (by kernel_rfl) (by kernel_rfl) (e:=Extern.BytealgCompare.compare) (by kernel_rfl)]
 have e:Extern.BytealgCompare.compare #[.slice a n c,.slice a2 n2 c2]=(do pure (goInt (Extern.BytealgCompare.cmp (←Extern.Bytes.bytesOf (.slice a n c)) (←Extern.Bytes.bytesOf (.slice a2 n2 c2))))):=rfl
 rw [e]
 simp [vP h1 hl,vP h2 hm,Fe,Cx,goInt]

def Gr (w w':World):Prop:=∃q os,w'=Sort.grow (w.drewN q) os
theorem Gr.trans {a b c:World} (h:Gr a b) (k:Gr b c):Gr a c:=by
 obtain ⟨q,os,rfl⟩:=h
 obtain ⟨q2,os2,rfl⟩:=k
 refine ⟨q+q2,os++os2,?_⟩
 simp [Sort.grow,World.drewN,Nat.add_assoc,Array.append_assoc]
theorem Gr.alloc (w:World) (o:Obj):Gr w (w.alloc o):=⟨0, #[o],by rw [Sort.alloc_eq_grow];simp [World.drewN]⟩
theorem Gr.drew (w:World):Gr w w.drew:=⟨1, #[],by rw [Sort.grow_empty];rfl⟩

theorem LL {P:Program} (w:World) (T:TypeId) (l:List Value):(Instr.box T (.agg l.toArray)).run P w=.ok (.pointer (some ⟨w.heap.size,0,none⟩)) (w.alloc (.cells l.toArray T)):=by simp [Instr.box,newVar,newRow,Value.cells]

theorem Ji (l m:List UInt8) (w:World) (hl:l.length=32) (hm:m.length=32):
   Calls Tryz.prog 219 #[.agg (bv l).toArray,.agg (bv m).toArray] w fun e w'=>e=.returned (.int .i64 (gI l m))∧Gr w w':=by
 apply uw
 obtain ⟨g1,w1,r1,h1⟩:=(St.start w).cz (P:=Tryz.prog) 87 (bv l)
 obtain ⟨g2,w2,r2,h2⟩:=h1.cz (P:=Tryz.prog) 87 (bv m)
 have e1:=r1.symm.trans (LL w _ _)
 have e2:=r2.symm.trans (LL w1 _ _)
 simp only [Result.ok.injEq] at e1 e2
 have hG:Gr w w2:=by rw [e2.2,e1.2];exact (Gr.alloc _ _).trans (Gr.alloc _ _)
 have h2d:=h2.drew
 refine ⟨g1,w1,r1,g2,w2,r2,by omega,by omega,by omega,by omega,(sN _ _ 32 32 32 32 l m w2.drew (h2d.rdA (i:=0) (n:=32) (l:=bv l) rfl (by simp [hl])).cells hl (h2d.rdA (i:=1) (n:=32) (l:=bv m) rfl (by simp [hm])).cells hm).mono ?_⟩
 rintro e w3 ⟨rfl,rfl⟩
 exact ⟨_,rfl,rfl,hG.trans (Gr.drew _)⟩

theorem KR {w0 w:World} {X:List Nat} {M:List Res} (h:St w0 X w M) {i g:Nat} {T:TypeId} {r:bw} (hi:M[i]?=some (.arr g T (aF r))):(Instr.loadAt 87 (.pointer (some ⟨g,0,none⟩))).run Tryz.prog w=.ok (.agg (bv r.id).toArray) w:=by
 have rng:=h.ku hi
 refine BM (fun j v hj=>rng j v ?_) (Ea _) (zU _) (by simp [r.idl])
 rw [aF,List.getElem?_append_left (List.getElem?_eq_some_iff.1 hj).1];exact hj

theorem N1 (x y:bw) (w:World):Calls Tryz.prog 218 #[.agg (aF x).toArray,.agg (aF y).toArray] w fun e w'=>e=.returned (.int .i64 (gI x.id y.id))∧Gr w w':=by
 apply nS
 obtain ⟨g1,w1,r1,h1⟩:=(St.start w).cz (P:=Tryz.prog) 100 (aF x)
 obtain ⟨g2,w2,r2,h2⟩:=h1.cz (P:=Tryz.prog) 100 (aF y)
 have e1:=r1.symm.trans (LL w _ _)
 have e2:=r2.symm.trans (LL w1 _ _)
 simp only [Result.ok.injEq] at e1 e2
 have hG:Gr w w2:=by rw [e2.2,e1.2];exact (Gr.alloc _ _).trans (Gr.alloc _ _)
 refine ⟨g1,w1,r1,g2,w2,r2,_,KR h2 (i:=0) rfl,_,KR h2 (i:=1) rfl,(Ji x.id y.id w2 x.idl y.idl).mono ?_⟩
 rintro e w3 ⟨rfl,hg⟩
 exact ⟨_,rfl,rfl,hG.trans hg⟩

end Go.Proofs.YtpmhjnhgpplmnaaGreatDoor
end

section
namespace Go.Proofs.YtpmhjnhgpplmnaaGreatDoor.Sx
open Go
set_option maxRecDepth 8000

section
variable {P:Program} {T e n:Nat} {k:IntKind}

theorem Bh (hT:P.underlying T=some (.array n e)) (he:P.underlying e=some (.int k)) (hs:∀w,(sizeOf e).run P w=.ok 1 w) (hA:∀w,(isAgg e).run P w=.ok false w) (l:List Int) (hl:l.length=n) (em:Bool) (d:Nat) (w:World):
   (Instr.checkKey em (d+2) T (.agg (l.map (Value.int k)).toArray)).run P w=.ok () w:=by
 have hp:∀(i:Nat) (w:World),i<n→(part e (l.map (Value.int k)).toArray i).run P w=.ok (.int k (l.getD i 0)) w:=by
   intro i w hi
   simp [part,hA,hs,show i<l.length by omega]
 have hc:∀(a:Int) (w:World),(Instr.checkKey em (d+1) e (.int k a)).run P w=.ok () w:=by
   intro a w
   simp [Instr.checkKey,run_underlying he]
 have key:∀(js:List Nat) (w:World),(∀j∈js,j<n)→(forIn (m:=Sem) js PUnit.unit fun i (_:PUnit)=>do
     let z ←sizeOf e
     let v ←part e (l.map (Value.int k)).toArray (i*z)
     (fun _=>ForInStep.yield PUnit.unit)<$>Instr.checkKey em (d+1) e v).run P w=.ok PUnit.unit w:=by
   intro js
   induction js with
   | nil=>intro w _;simp
   | cons j js ih=>
     intro w hj
     simp only [List.forIn_cons,Sem.run_bind,hs,Nat.mul_one,hp j w (hj j (by simp)),Result.andThen_ok,map_eq_pure_bind,hc]
     simpa using ih w (fun i hi=>hj i (by simp [hi]))
 have k0:=key (List.range' 0 n) w (by simp [List.mem_range'_1])
 unfold Instr.checkKey
 simp only [Sem.run_bind,run_underlying hT,Result.andThen_ok]
 generalize hq:Instr.checkKey em (d+1)=q at k0 ⊢
 simp at k0 ⊢
 rw [k0]
 rfl

theorem H8 (hT:P.underlying T=some (.array n e)) (he:P.underlying e=some (.int k)) (hs:∀w,(sizeOf e).run P w=.ok 1 w) (hA:∀w,(isAgg e).run P w=.ok false w) (l m:List Int) (hl:l.length=n) (hm:m.length=n) (w:World):
   (Op.equal T (.agg (l.map (Value.int k)).toArray) (.agg (m.map (Value.int k)).toArray)).run P w=.ok (decide (l=m)) w:=by
 simp only [Op.equal,show Op.maxDepth=9999+1 from rfl]
 exact Gb (d:=9999) hT hs hA (fun a b w=>by rw [run_equalIn_int w 9998 e k k a b he]) l m hl hm w
end

section
variable {P:Program} {α:Type} {key val:α→Value} {kid:α→List UInt8} {KT:TypeId}

structure sV (P:Program) (KT:TypeId) (n:Nat):Prop where
 und:∃e,P.underlying KT=some (.array n e)∧P.underlying e=some (.int .u8)∧(∀w,(sizeOf e).run P w=.ok 1 w)∧∀w,(isAgg e).run P w=.ok false w

theorem sV.chk {n:Nat} (h:sV P KT n) {id:List UInt8} (hl:id.length=n) (em:Bool) (w:World):(Instr.checkKey em 10000 KT (.agg (bv id).toArray)).run P w=.ok () w:=by
 obtain ⟨e,h1,h2,h3,h4⟩:=h.und
 rw [pQ]
 exact Bh h1 h2 h3 h4 _ (by simp [hl]) em 9998 w
theorem sV.eql {n:Nat} (h:sV P KT n) {id id2:List UInt8} (hl:id.length=n) (hl2:id2.length=n) (w:World):(Op.equal KT (.agg (bv id).toArray) (.agg (bv id2).toArray)).run P w=.ok (decide (id=id2)) w:=by
 obtain ⟨e,h1,h2,h3,h4⟩:=h.und
 rw [pQ,pQ]
 have:=H8 h1 h2 h3 h4 (id.map fun b=>(b.toNat:Int)) (id2.map fun b=>(b.toNat:Int)) (by simp [hl]) (by simp [hl2]) w
 simpa only [F8] using this

theorem oz {n:Nat} (h:sV P KT n) {id:List UInt8} (hl:id.length=n) (w:World):∀(L:List MapEntry) (M:List α) (i:Nat),L.map (fun x=>(x.key,x.val))=M.map (fun r=>(Value.agg (bv (kid r)).toArray,val r))→(∀r∈M,(kid r).length=n)→
   (Instr.findAsking KT (.agg (bv id).toArray) L i).run P w=.ok (((M.findIdx? fun r=>kid r==id).bind fun j=>(M[j]?).map fun r=>(i+j,val r))) w
 | [],[],i,_,_=>by simp [Instr.findAsking]
 | [],r::M,i,he,_=>by simp at he
 | x::L,[],i,he,_=>by simp at he
 | x::L,r::M,i,he,hk=>by
   simp only [List.map_cons,List.cons.injEq,Prod.mk.injEq] at he
   obtain ⟨⟨e1,e2⟩,e3⟩:=he
   have ih:=oz h hl w L M (i+1) e3 fun s hs=>hk s (by simp [hs])
   have hq:=h.eql hl (hk r (by simp)) w
   simp only [Instr.findAsking,Sem.run_bind,e1,hq,Result.andThen_ok,e2]
   by_cases hr:id=kid r
   · simp [hr,List.findIdx?_cons]
   · have hr':¬kid r=id:=fun e=>hr e.symm
     simp only [hr,decide_false,Bool.false_eq_true,if_false,ih,List.findIdx?_cons,beq_iff_eq,hr']
     cases hf:M.findIdx? fun r=>kid r==id with
     | none=>simp
     | some j=>simp [Nat.add_assoc,Nat.add_comm 1]

theorem DV {n:Nat} (h:sV P KT n) {id:List UInt8} (hl:id.length=n) (w:World) {L:List MapEntry} {M:List α} (he:L.map (fun x=>(x.key,x.val))=M.map (fun r=>(Value.agg (bv (kid r)).toArray,val r))) (hk:∀r∈M,(kid r).length=n):
   (Instr.findKey KT (.agg (bv id).toArray) L).run P w=.ok (((M.findIdx? fun r=>kid r==id).bind fun j=>(M[j]?).map fun r=>(j,val r))) w:=by
 obtain ⟨e,h1,h2,h3,h4⟩:=h.und
 have hf:=oz h hl w L M 0 he hk
 simp only [Nat.zero_add] at hf
 cases L with
 | nil=>
   have hm:M=[]:=by cases M with
     | nil=>rfl
     | cons _ _=>simp at he
   subst hm
   simp [Instr.findKey,Instr.findNow,run_underlying h1]
 | cons x L=>
   simp only [Instr.findKey,Sem.run_bind,run_underlying h1,Result.andThen_ok]
   have:Instr.findNow (.array n e) (.agg (bv id).toArray) (x::L) 0=none:=by simp [Instr.findNow,Instr.sameNow]
   rw [this]
   exact hf

theorem IV (l:List Int) (k:IntKind):Instr.sameBits 10000 (.agg (l.map (Value.int k)).toArray) (.agg (l.map (Value.int k)).toArray)=true:=by
 have h1:∀x∈(l.map (Value.int k)).zip (l.map (Value.int k)),Instr.sameBits 9999 x.1 x.2=true:=by
   intro x hx
   rw [List.zip_map] at hx
   simp only [List.mem_map] at hx
   obtain ⟨⟨a,b⟩,hab,rfl⟩:=hx
   have e:a=b:=by
     obtain ⟨i,hi⟩:=List.getElem?_of_mem hab
     rw [List.getElem?_zip_eq_some] at hi
     rw [hi.1] at hi
     exact Option.some.inj hi.2
   subst e
   simp [Instr.sameBits]
 rw [show (10000:Nat)=9999+1 from rfl,Instr.sameBits]
 simp only [beq_self_eq_true,Bool.true_and]
 rw [List.all_eq_true]
 intro x hx
 exact h1 x hx


theorem KV {n:Nat} (h:sV P KT n):FK P KT (fun id=>.agg (bv id).toArray) (fun id=>id.length=n):=
 ⟨fun _ hl em w=>h.chk hl em w,fun α val kid L M id hl w he hk=>DV (α:=α) (val:=val) (kid:=kid) h hl w he hk,fun id w=>by
   unfold Instr.keyThatStays
   rw [pQ,IV]
   simp⟩

variable {n:Nat} {w:World} {g:Nat} {es:Array MapEntry} {clock:Nat} {M:List α} {mt ET:TypeId}

structure zD (P:Program) (KT:TypeId) (n:Nat) (key:α→Value) (kid:α→List UInt8) (M:List α):Prop where
 eq:sV P KT n
 key:∀r,key r=.agg (bv (kid r)).toArray
 len:∀r∈M,(kid r).length=n

theorem zD.toM (h:zD P KT n key kid M):HL P KT (fun id=>.agg (bv id).toArray) (fun id=>id.length=n) key kid M:=⟨KV h.eq,h.key,h.len⟩

theorem bF.find (hE:bF key val es clock M) (hK:zD P KT n key kid M) {id:List UInt8} (hl:id.length=n) (w:World):(Instr.findKey KT (.agg (bv id).toArray) es.toList).run P w=.ok ((dN kid M id).map fun p=>(p.1,val p.2)) w:=hE.Gy hK.toM hl w

theorem bF.update (hE:bF key val es clock M) (hK:zD P KT n key kid M) (hm:P.underlying mt=some (.map KT ET)) (hg:w.heap[g]?=some (.map es clock)) (r:α) (hr:(kid r).length=n):
   ∃es' clock',(Instr.mapUpdate mt (.map (some g)) (.agg (bv (kid r)).toArray) (val r)).run P w=.ok () (w.putObj g (.map es' clock'))∧bF key val es' clock' (wh kid M r):=hE.wE hK.toM hm hg r hr

theorem bF.delete (hE:bF key val es clock M) (hK:zD P KT n key kid M) (hm:P.underlying mt=some (.map KT ET)) (hg:w.heap[g]?=some (.map es clock)) {id:List UInt8} (hl:id.length=n) (ts:Array TypeId) (hts:ts[0]?=some mt) (ty:TypeId):
   ∃es',(Builtin.delete_ ts ty #[.map (some g),.agg (bv id).toArray]).run P w=.ok (.tuple #[]) (w.putObj g (.map es' clock))∧(∀j r,dN kid M id=some (j,r)→es'=es.eraseIdxIfInBounds j∧bF key val es' clock (M.eraseIdx j))∧(dN kid M id=none→es'=es∧bF key val es' clock M):=hE.Gm hK.toM hm hg hl ts hts ty

theorem bF.lookup (hE:bF key val es clock M) (hK:zD P KT n key kid M) (hm:P.underlying mt=some (.map KT ET)) (hg:w.heap[g]?=some (.map es clock)) {id:List UInt8} (hl:id.length=n) {z:Value} (hz:∀w,(zeroValue ET).run P w=.ok z w):
   (Instr.lookup mt (.map (some g)) (.agg (bv id).toArray) true).run P w=.ok (.tuple #[((dN kid M id).map fun p=>val p.2).getD z,.bool (dN kid M id).isSome]) w:=hE.BK hK.toM hm hg hl hz

end

end Go.Proofs.YtpmhjnhgpplmnaaGreatDoor.Sx
end

section
namespace Go.Proofs.YtpmhjnhgpplmnaaGreatDoor
open Go Sx
set_option maxRecDepth 8000

def iK (r:bw):Bool:=decide (0≤r.pack)&&decide (r.pack≤1099511627776)&&decide (0≤r.at_)&&decide (0≤r.len)
def Dr:Refs→bw→Bool→Refs
 | [],r,done=>if done then [] else [r]
 | s::seg,r,done=>(if !done&& !lexLt s.id r.id then [r] else [])++(if s.id=r.id then [] else [s])++Dr seg r (done|| !lexLt s.id r.id)
def qy (seg:Refs) (r:bw):Refs:=Dr seg r false
def gE (seg refs:Refs):Refs:=refs.foldl qy seg
abbrev Asc (S:Refs):Prop:=gK bw.id S

theorem qJ:∀(S:Refs) (r:bw),(∀x∈S,x.id≠r.id)→Dr S r true=S
 | [],_,_=>rfl
 | s::S,r,h=>by
   rw [Dr,Bool.true_or,qJ S r fun x hx=>h x (by simp [hx])]
   simp [h s (by simp)]

theorem nP:∀ {S:Refs},Asc S→∀r:bw,∃A B,qy S r=A++r::B∧(S=A++B∨∃y,y.id=r.id∧S=A++y::B)∧(∀x∈A,lexLt x.id r.id=true)∧(∀x∈B,lexLt r.id x.id=true)
 | [],_,r=>⟨[],[],rfl,.inl rfl,by simp,by simp⟩
 | s::S,h,r=>by
   have a:=List.pairwise_cons.1 h
   unfold qy
   rw [Dr]
   cases hlt:lexLt s.id r.id with
   | true=>
     obtain ⟨A,B,h1,h2,h3,h4⟩:=nP a.2 r
     unfold qy at h1
     have hne:s.id≠r.id:=gu hlt
     refine ⟨s::A,B,by simp [hne,h1],?_,?_,h4⟩
     · rcases h2 with h2 | ⟨y,hy,h2⟩
       · left;rw [h2];rfl
       · right;exact ⟨y,hy,by rw [h2];rfl⟩
     · intro x hx
       rcases List.mem_cons.1 hx with rfl | hx
       · exact hlt
       · exact h3 x hx
   | false=>
     by_cases he:s.id=r.id
     · have hS:∀x∈S,lexLt r.id x.id=true:=fun x hx=>by rw [←he];exact a.1 x hx
       refine ⟨[],S,?_,.inr ⟨s,he,rfl⟩,by simp,hS⟩
       simp only [Bool.not_false,Bool.true_and,Bool.false_or,if_true,he]
       rw [qJ S r fun x hx=>(gu (hS x hx)).symm]
       simp
     · have hrs:lexLt r.id s.id=true:=by
         cases h2:lexLt r.id s.id with
         | true=>rfl
         | false=>exact absurd (tA _ _ hlt h2) he
       have hS:∀x∈S,lexLt r.id x.id=true:=fun x hx=>lex_trans _ _ _ hrs (a.1 x hx)
       refine ⟨[],s::S,?_,.inl rfl,by simp,?_⟩
       · simp only [Bool.not_false,Bool.true_and,Bool.false_or,if_true,if_neg he]
         rw [qJ S r fun x hx=>(gu (hS x hx)).symm]
         simp
       · intro x hx
         rcases List.mem_cons.1 hx with rfl | hx
         · exact hrs
         · exact hS x hx

theorem Az {A B:Refs} {r:bw} (hA:Asc A) (hB:Asc B) (h1:∀x∈A,lexLt x.id r.id=true) (h2:∀x∈B,lexLt r.id x.id=true):Asc (A++r::B):=by
 refine List.pairwise_append.2 ⟨hA,List.pairwise_cons.2 ⟨h2,hB⟩,fun x hx y hy=>?_⟩
 rcases List.mem_cons.1 hy with rfl | hy
 · exact h1 x hx
 · exact lex_trans _ _ _ (h1 x hx) (h2 y hy)

theorem sL {S:Refs} (h:Asc S) (r:bw):Asc (qy S r):=by
 obtain ⟨A,B,h1,h2,h3,h4⟩:=nP h r
 rw [h1]
 rcases h2 with h2 | ⟨y,hy,h2⟩
 · rw [h2] at h
   have:=List.pairwise_append.1 h
   exact Az this.1 this.2.1 h3 h4
 · rw [h2] at h
   have:=List.pairwise_append.1 h
   exact Az this.1 (List.pairwise_cons.1 this.2.1).2 h3 h4

theorem Gh:∀ {refs S:Refs},Asc S→Asc (gE S refs)
 | [],_,h=>h
 | r::refs,S,h=>by rw [gE,List.foldl_cons];exact Gh (refs:=refs) (sL h r)

structure nw (M S:Refs):Prop where
 perm:M.Perm S
 asc:Asc S

theorem nw.nil:nw [] []:=⟨List.Perm.refl _,List.Pairwise.nil⟩

theorem nw.upd {M S:Refs} (h:nw M S) (r:bw):nw (wh bw.id M r) (qy S r):=by
 refine ⟨?_,sL h.asc r⟩
 obtain ⟨A,B,h1,h2,h3,h4⟩:=nP h.asc r
 rw [h1]
 unfold wh
 cases hf:dN bw.id M r.id with
 | none=>
   have hn:=jV hf
   rcases h2 with h2 | ⟨y,hy,h2⟩
   · have hp:=h.perm
     rw [h2] at hp
     exact (List.perm_append_singleton r M).trans ((hp.cons r).trans List.perm_middle.symm)
   · have:y∈M:=h.perm.mem_iff.2 (by rw [h2];simp)
     exact absurd hy (hn y this)
 | some p=>
   obtain ⟨j,y⟩:=p
   obtain ⟨hj,hy⟩:=eT hf
   have hyS:y∈S:=h.perm.mem_iff.1 (List.mem_of_getElem? hj)
   have hjl:=(List.getElem?_eq_some_iff.1 hj).1
   have hM:M=M.take j++y::M.drop (j+1):=by
     have e:M[j]=y:=(List.getElem?_eq_some_iff.1 hj).2
     rw [←e,←List.drop_eq_getElem_cons hjl,List.take_append_drop]
   have hset:M.set j r=M.take j++r::M.drop (j+1):=List.set_eq_take_append_cons_drop .. |>.trans (by rw [if_pos hjl])
   have key:S=A++y::B:=by
     rcases h2 with h2 | ⟨y',hy',h2⟩
     · exfalso
       rw [h2] at hyS
       rcases List.mem_append.1 hyS with hq | hq
       · exact gu (h3 y hq) hy
       · exact gu (h4 y hq) hy.symm
     · have:y=y':=uU h.asc hyS (by rw [h2];simp) (hy.trans hy'.symm)
       rw [this];exact h2
   have hp:=h.perm
   rw [hM,key] at hp
   have h5:(M.take j++M.drop (j+1)).Perm (A++B):=(List.perm_middle.symm.trans (hp.trans List.perm_middle)).cons_inv
   show (M.set j r).Perm (A++r::B)
   rw [hset]
   exact List.perm_middle.trans ((h5.cons r).trans List.perm_middle.symm)

theorem nw.sorted {M S l:Refs} (h:nw M S) (hp:l.Perm M) (hs:l.Pairwise fun x y=>lexLt y.id x.id=false):l=S:=by
 have hpS:=hp.trans h.perm
 have hnS:S.Pairwise fun x y=>x.id≠y.id:=h.asc.imp fun h=>gu h
 have hnl:l.Pairwise fun x y=>x.id≠y.id:=hnS.perm hpS.symm fun h=>h.symm
 have ha:Asc l:=by
   have:=List.pairwise_and_iff.2 ⟨hs,hnl⟩
   refine this.imp ?_
   rintro x y ⟨h1,h2⟩
   cases h3:lexLt x.id y.id with
   | true=>rfl
   | false=>exact absurd (tA _ _ h3 h1) h2
 exact D8 ha h.asc fun x=>hpS.mem_iff

def findF (S:Refs) (id:List UInt8):Option bw:=S.find? fun r=>r.id==id
theorem nw.find {M S:Refs} (h:nw M S) (id:List UInt8):(dN bw.id M id).map (·.2)=findF S id:=by
 cases hf:dN bw.id M id with
 | none=>
   have hn:=jV hf
   symm
   rw [Option.map_none,findF,List.find?_eq_none]
   intro r hr
   have:=hn r (h.perm.mem_iff.2 hr)
   simpa using this
 | some p=>
   obtain ⟨j,y⟩:=p
   obtain ⟨hj,hy⟩:=eT hf
   have hyS:y∈S:=h.perm.mem_iff.1 (List.mem_of_getElem? hj)
   rw [Option.map_some]
   cases hq:findF S id with
   | none=>
     rw [findF,List.find?_eq_none] at hq
     exact absurd (by simpa using hy) (hq y hyS)
   | some z=>
     have h1:=List.find?_some hq
     have h2:=List.mem_of_find?_eq_some hq
     simp only [beq_iff_eq] at h1
     rw [uU h.asc hyS h2 (hy.trans h1.symm)]

theorem Im {es:Array MapEntry} {seen:Array Nat} {e:MapEntry} (hn:(es.toList.map (·.born)).Nodup) (he:e∈(leftOf es seen).toList):(leftOf es seen).toList.Perm (e::(leftOf es (seen.push e.born)).toList):=by
 have key:∀(L:List MapEntry),(L.map (·.born)).Nodup→e∈L→L.Perm (e::L.filter fun x=>x.born≠e.born):=by
   intro L
   induction L with
   | nil=>intro _ h;simp at h
   | cons x L ih=>
     intro hn hm
     rw [List.map_cons,List.nodup_cons] at hn
     rcases List.mem_cons.1 hm with rfl | hm
     · have hL:L.filter (fun x=>decide (x.born≠e.born))=L:=List.filter_eq_self.2 fun y hy=>by
         simp only [ne_eq,decide_eq_true_eq]
         exact fun h=>hn.1 (List.mem_map.2 ⟨y,hy,h⟩)
       rw [List.filter_cons,if_neg (by simp),hL]
     · have hx:x.born≠e.born:=fun h=>hn.1 (List.mem_map.2 ⟨e,hm,h.symm⟩)
       rw [List.filter_cons,if_pos (by simpa using hx)]
       exact ((ih hn.2 hm).cons x).trans (List.Perm.swap _ _ _)
 have hsub:((leftOf es seen).toList.map (·.born)).Nodup:=by
   rw [leftOf,Array.toList_filter]
   exact hn.sublist ((List.filter_sublist).map _)
 have:=key _ hsub he
 refine this.trans (List.Perm.of_eq ?_)
 congr 1
 rw [leftOf,leftOf,Array.toList_filter,Array.toList_filter,List.filter_filter]
 apply List.filter_congr
 intro x _
 simp only [Array.contains_push,ne_eq]
 by_cases h2:x.born=e.born<;>cases h1:seen.contains x.born<;>simp [h1,h2]

end Go.Proofs.YtpmhjnhgpplmnaaGreatDoor
end

section
namespace Go.Proofs.YtpmhjnhgpplmnaaGreatDoor
open Go Sx
set_option maxRecDepth 8000

def kyV (r:bw):Value:=.agg (bv r.id).toArray
def vlV (r:bw):Value:=.agg (aF r).toArray
theorem LZ:sV Tryz.prog 87 32:=⟨5,Tryz.underlying87,bE,fun w=>Tryz.sizeOf5 w,fun w=>Tryz.isAgg5 w⟩
theorem MW (M:Refs):zD Tryz.prog 87 32 kyV bw.id M:=⟨LZ,fun _=>rfl,fun r _=>r.idl⟩
theorem IU:Tryz.prog.underlying 270=some (.map 87 100):=Tryz.underlying270
theorem mpA (w:World):(isAgg 270).run Tryz.prog w=.ok false w:=Tryz.isAgg270 w
section
variable {w0 w:World} {X:List Nat} {N:List Res}

theorem Rd.Nj {w w':World} {g:Nat} {o:Obj} {a:Option Addr} {n c sz:Nat} {cs:List Value} (h:Rd w a n c sz cs) (hg:w.heap[g]?=some o) (ho:∀c T fr,o≠ .cells c T fr) (hc:Chg [g] w w'):Rd w' a n c sz cs:=by
 refine ⟨?_,h.len,h.le,h.nil⟩
 rcases h.cells with h0 | ⟨b,f,ha,hr⟩
 · exact .inl h0
 · refine .inr ⟨b,f,ha,fun j v hv=>?_⟩
   have h1:=hr j v hv
   by_cases hb:b=g
   · subst hb
     exfalso
     unfold World.cell? at h1
     simp only [hg] at h1
     cases o with
     | cells c' T fr=>exact ho c' T fr rfl
     | _=>simp at h1
   · rw [←h1]
     exact World.cell?_of_block (hc.block b (World.block_lt_of_cell? w _ h1) (by simpa using hb))

theorem Ij (r:bw) (w:World):Calls Tryz.prog 182 #[.agg (aF r).toArray] w fun e w'=>e=.returned (.bool (iK r))∧Chg [] w w':=by
 apply zk
 obtain ⟨g1,w1,r1,h1⟩:=(St.start w).cz (P:=Tryz.prog) 100 (aF r)
 obtain ⟨f1,f2,f3⟩:=uG h1 (i:=0) rfl
 refine ⟨g1,w1,r1,_,f1,fun h=>⟨_,f1,fun h2=>⟨_,f2,fun h3=>⟨_,f3,?_,h1.chg⟩,fun h3=>⟨?_,h1.chg⟩⟩,fun h2=>⟨?_,h1.chg⟩⟩,fun h=>⟨?_,h1.chg⟩⟩
 all_goals
   congr 2
   unfold iK
   simp only [ge_iff_le,decide_eq_true_eq,decide_eq_false_iff_not] at*
   simp [*]

theorem HN (r:bw) (w:World):Calls Tryz.prog 181 #[.agg (aF r).toArray] w fun e w'=>e=.returned (.bool (!iK r))∧Chg [] w w':=by
 apply ow
 obtain ⟨g1,w1,r1,h1⟩:=(St.start w).cz (P:=Tryz.prog) 100 (aF r)
 refine ⟨g1,w1,r1,_,h1.ldA (i:=0) (l:=aF r) rfl (rfA _) (rfS _) (aJ r),(Ij r w1).mono ?_⟩
 rintro e w2 ⟨rfl,c2⟩
 exact ⟨_,rfl,rfl,h1.chg.trans c2⟩

theorem zg (a:Option Addr) (n c:Nat) (l:Refs) (w:World) (hr:RdR w a n c l) (hb:n≤4611686018427387904):
   Calls Tryz.prog 180 #[.slice a n c,.func (.func 181) #[] #[]] w fun e w'=>e=.returned (.bool (!l.all iK))∧Chg [] w w':=by
 have hln:=hr.num (by decide)
 apply fG
 have key:Calls Tryz.prog 261 #[.slice a n c,.func (.func 181) #[] #[]] w fun e w'=>∃t:Int,e=.returned (.int .i64 t)∧decide (t≥0)=(!l.all iK)∧Chg [] w w':=by
   apply gv
   refine ⟨fun x w'=>∃i:Nat,x=(i:Int)∧i≤n∧(l.take i).all iK=true∧Chg [] w w',fun x _=>n-x.toNat,⟨0,rfl,by omega,by simp,Chg.refl _ _⟩,?_⟩
   rintro x w1 ⟨i,rfl,hi,hall,hc⟩
   refine ⟨fun h=>?_,fun h=>?_⟩
   · have hi':i<n:=by simp at h;omega
     obtain ⟨b,o,ha,q⟩:=hr.ld (P:=Tryz.prog) (by decide) rfA rfS (i:=i) (List.getElem?_eq_getElem (by omega))
     refine ⟨b,o,ha,by omega,by omega,_,q w1 (hr.au hc),181,[],rfl,by kernel_rfl,(HN _ w1).mono ?_⟩
     rintro e w2 ⟨rfl,c2⟩
     refine ⟨_,rfl,fun h=>⟨_,rfl,?_,hc.trans c2⟩,fun h=>⟨⟨i+1,ay hi' hb,by omega,?_,hc.trans c2⟩,aB hi' hb⟩⟩
     · have hg:iK l[i]=false:=by simpa using h
       have:l.all iK=false:=by
         rw [List.all_eq_false]
         exact ⟨l[i],List.getElem_mem _,by simp [hg]⟩
       rw [this]
       simp
     · rw [List.take_add_one,List.getElem?_eq_getElem (by omega),List.all_append,hall]
       simpa using h
   · have hi':i=n:=by simp at h;omega
     rw [hi',List.take_of_length_le (by omega)] at hall
     exact ⟨_,rfl,by rw [hall];rfl,hc⟩
 refine Calls.mono key ?_
 rintro e w' ⟨t,rfl,h1,h2⟩
 exact ⟨t,rfl,by rw [h1],h2⟩

def fV (w0:World) (X:List Nat) (w:World) (gi gm:Nat) (S:Refs) (N:List Res):Prop:=
 ∃es clock M,bF kyV vlV es clock M∧nw M S∧St w0 X w (.arr gi 272 [.map (some gm)]:: .blk gm (.map es clock)::N)

theorem Dl:Tryz.prog.built 272=fun parts=>Instr.fill (fun i=>(#[(0,1)]:Array (Nat×Nat))[i]?) #[.map none] parts:=by kernel_rfl
theorem Ef (v:Value) (hv:v.cells= #[v]) (w:World):(Instr.build 272 #[(0,v)]).run Tryz.prog w=.ok (.agg #[v]) w:=by
 apply run_build
 rw [Dl]
 show Instr.fill _ _ [(0,v)]=_
 rw [aC (off:=0) (sz:=1) rfl (by simp [hv]) (by simp)]
 simp [Instr.fill,hv]

theorem JO (w:World):Calls Tryz.prog 142 #[] w fun e w'=>∃gi gm,e=.returned (.pointer (some ⟨gi,0,none⟩))∧fV w [] w' gi gm [] []:=by
 apply AN
 have h1:St w [] (w.alloc (.map #[] 0)) [.blk w.heap.size (.map #[] 0)]:=(St.start w).add (Chg.alloc _ _) (heap_alloc_new w _) (by simp [Res.fp])
 obtain ⟨g3,w2,r2,h2⟩:=h1.cz (P:=Tryz.prog) 272 [.map (some w.heap.size)]
 refine ⟨.map (some w.heap.size),_,rfl, #[.map (some w.heap.size)],Ef _ rfl _,g3,w2,r2,g3,_,rfl, #[],0,[],bF.nil _ _,nw.nil,h2.perm (List.Perm.swap _ _ _)⟩

theorem St.uD {M:List Res} (h:St w0 X w M) {i g:Nat} {o o':Obj} (hi:M[i]?=some (.blk g o)):St w0 X (w.putObj g o') (M.set i (.blk g o')):=by
 have hg:w.heap[g]?=some o:=h.holds i _ hi
 have hlt:=(Array.getElem?_eq_some_iff.1 hg).1
 refine h.upd hi ⟨rfl,rfl,rfl,by simp,fun k hk hx=>?_⟩ (World.putObj_heap_same hlt) (by simp [Res.fp])
 exact World.putObj_heap_other fun e=>hx (by simp [Res.fp,e])

theorem FJ {g:Nat} {o:Obj} (w:World) (o':Obj) (_:w.heap[g]?=some o):Chg [g] w (w.putObj g o'):=⟨rfl,rfl,rfl,by simp,fun k _ hx=>World.putObj_heap_other fun e=>hx (by simp [e])⟩

theorem Iw (gi gm:Nat) (S:Refs) (a:Option Addr) (n c:Nat) (l:Refs) (h:fV w0 X w gi gm S N) (hr:RdR w a n c l) (hb:n≤4611686018427387904):
   Calls Tryz.prog 86 #[.pointer (some ⟨gi,0,none⟩),.slice a n c] w fun e w'=>RdR w' a n c l∧((l.all iK=true∧e=.returned (bG none)∧fV w0 X w' gi gm (gE S l) N)∨(l.all iK=false∧e=.returned (bG (some 28))∧fV w0 X w' gi gm S N)):=by
 have hln:=hr.num (by decide)
 apply qS
 refine (zg a n c l w hr hb).mono ?_
 rintro e w1 ⟨rfl,c1⟩
 obtain ⟨es,clock,M,hE,hM,hS⟩:=h
 have h1:=hS.same c1
 have hr1:=hr.au c1
 refine ⟨_,rfl,fun hb=>?_,fun hgood=>?_⟩
 · have:l.all iK=false:=by simpa using hb
   exact ⟨hr1,.inr ⟨this,rfl,es,clock,M,hE,hM,h1⟩⟩
 have hall:l.all iK=true:=by simpa using hgood
 refine ⟨fun x w'=>∃i:Nat,x=(i:Int)∧i≤n∧RdR w' a n c l∧fV w0 X w' gi gm (gE S (l.take i)) N,fun x _=>n-x.toNat,⟨0,rfl,by omega,hr1,es,clock,M,hE,hM,h1⟩,?_⟩
 rintro x w2 ⟨i,rfl,hi,hr2,es2,clock2,M2,hE2,hM2,h2⟩
 refine ⟨fun h=>?_,fun h=>?_⟩
 · have hi':i<n:=by simp at h;omega
   obtain ⟨r,hri⟩:∃r,l[i]?=some r:=⟨l[i],List.getElem?_eq_getElem (by omega)⟩
   obtain ⟨b,o,ha,q⟩:=hr2.ld (P:=Tryz.prog) (by decide) rfA rfS (i:=i) hri
   obtain ⟨g6,w3,r3,h3⟩:=h2.aD rfZ
   have e6:(.arr gi 272 [.map (some gm)]:: .blk gm (.map es2 clock2)::N++ [Res.arr g6 100 (aF dX)]:List Res)[N.length+2]?=some (.arr g6 100 (aF dX)):=by
     rw [List.getElem?_append_right (by simp)];simp
   obtain ⟨w4,r4,h4⟩:=h3.stA (i:=N.length+2) (v:=aF r) e6 (rfS _) (aJ _) (aJ _) (dR r)
   have hset:(.arr gi 272 [.map (some gm)]:: .blk gm (.map es2 clock2)::N++ [Res.arr g6 100 (aF dX)]:List Res).set (N.length+2) (.arr g6 100 (aF r))=.arr gi 272 [.map (some gm)]:: .blk gm (.map es2 clock2)::(N++ [.arr g6 100 (aF r)]):=by simp
   rw [hset] at h4
   have h4d:=h4.drew
   have hg4:w4.drew.heap[gm]?=some (.map es2 clock2):=h4d.holds 1 _ rfl
   obtain ⟨es5,clock5,r5,hE5⟩:=hE2.update (P:=Tryz.prog) (MW M2) IU hg4 r r.idl
   have h5:=St.uD h4d (i:=1) (o':=.map es5 clock5) rfl
   have h5:St w0 X (w4.drew.putObj gm (.map es5 clock5)) (.arr gi 272 [.map (some gm)]:: .blk gm (.map es5 clock5)::(N++ [.arr g6 100 (aF r)])):=h5
   have c34:Chg [] w2 w4:=by
     obtain ⟨g',w',r',h'⟩:=(St.start w2).aD (P:=Tryz.prog) rfZ
     have e1:=r3.symm.trans r'
     simp only [Result.ok.injEq,Value.pointer.injEq,Option.some.injEq,Addr.mk.injEq,and_true] at e1
     obtain ⟨e1,e2⟩:=e1
     subst e1 e2
     obtain ⟨w'',r'',h''⟩:=h'.stA (i:=0) (v:=aF r) rfl (rfS _) (aJ _) (aJ _) (dR r)
     have e3:=r4.symm.trans r''
     simp only [Result.ok.injEq,true_and] at e3
     rw [e3]
     exact h''.chg
   have hr5:RdR (w4.drew.putObj gm (.map es5 clock5)) a n c l:=⟨Rd.Nj ((hr2.au (c34.trans (Chg.drew [] w4))).rd) hg4 (by simp) (FJ _ _ hg4),hr2.len⟩
   refine ⟨b,o,ha,by omega,by omega,_,q w2 hr2,g6,w3,r3,w4,r4,fun w'=>∃es' c',St w0 X w' (.arr gi 272 [.map (some gm)]:: .blk gm (.map es' c')::(N++ [.arr g6 100 (aF r)])),⟨_,_,h4d⟩,_,?_,_,?_,_,?_,_,r5,_,fun _ h=>h,⟨_,_,h5⟩,⟨i+1,ay hi' hb,by omega,hr5,es5,clock5,wh bw.id M2 r,hE5,?_,h5.sub ?_⟩,aB hi' hb⟩
   · rintro w' ⟨_,_,h'⟩
     exact h'.ldL (i:=0) (l:=[.map (some gm)]) rfl (mpA _) rfl rfl
   · rintro w' ⟨_,_,h'⟩
     exact KR h' (i:=N.length+2) (r:=r) (T:=100) (by simp)
   · rintro w' ⟨_,_,h'⟩
     exact h'.ldA (i:=N.length+2) (l:=aF r) (T':=100) (g:=g6) (by simp) (rfA _) (rfS _) (aJ r)
   · have:=hM2.upd r
     rw [List.take_add_one,hri]
     simpa [gE] using this
   · exact List.Sublist.cons_cons _ (List.Sublist.cons_cons _ (List.sublist_append_left _ _))
 · have hi':i=n:=by simp at h;omega
   rw [hi',List.take_of_length_le (by omega)] at hM2
   exact ⟨hr2,.inl ⟨hall,rfl,es2,clock2,M2,hE2,hM2,h2⟩⟩
end

end Go.Proofs.YtpmhjnhgpplmnaaGreatDoor
end

section
namespace Go.Proofs.YtpmhjnhgpplmnaaGreatDoor
open Go Sx
set_option maxRecDepth 8000

theorem ME (l:List Int) (i:Nat):(zv l)[i]?=l[i]?.map (Value.int .i64):=by simp [zv]
abbrev RdZ (w:World) (a:Option Addr) (n c:Nat) (l:List Int):Prop:=Rd w a n c 1 (zv l)
theorem RdZ.num {w:World} {a:Option Addr} {n c:Nat} {l:List Int} (h:RdZ w a n c l):l.length=n:=by have:=h.len;simpa [zv] using this
theorem ixZ {w:World} {a:Option Addr} {n c:Nat} {l:List Int} (h:RdZ w a n c l) {i:Nat} {x:Int} (hx:l[i]?=some x):
   ∃b o,a=some ⟨b,o,none⟩∧∀w',RdZ w' a n c l→(Instr.loadAt 3 (.pointer (some ⟨b,o+Int.toNat (i:Int)*1,none⟩))).run Tryz.prog w'=.ok (.int .i64 x) w':=by
 have hv:(zv l)[i]?=some (.int .i64 x):=by rw [ME,hx];rfl
 obtain ⟨b,o,ha,_⟩:=h.cells.at_ hv
 refine ⟨b,o,ha,fun w' h'=>?_⟩
 obtain ⟨b',o',ha',hc⟩:=h'.cells.at_ hv
 rw [ha] at ha'
 simp only [Option.some.injEq,Addr.mk.injEq,and_true] at ha'
 obtain ⟨rfl,rfl⟩:=ha'
 rw [show o+Int.toNat (i:Int)*1=o+i by omega]
 exact ld1 (inA _) hc

theorem kr (a:Option Addr) (n c:Nat) (l:List Int) (x:Int) (w:World) (hr:RdZ w a n c l) (hb:n≤4611686018427387904):
   Calls Tryz.prog 135 #[.slice a n c,.int .i64 x] w fun e w'=>e=.returned (.bool (l.contains x))∧w'=w:=by
 have hln:=hr.num
 apply kQ
 apply lR
 refine ⟨fun y w'=>∃i:Nat,y=(i:Int)∧i≤n∧(l.take i).contains x=false∧w'=w,fun y _=>n-y.toNat,⟨0,rfl,by omega,by simp,rfl⟩,?_⟩
 rintro y w1 ⟨i,rfl,hi,hno,rfl⟩
 refine ⟨fun h=>?_,fun h=>?_⟩
 · have hi':i<n:=by simp at h;omega
   have hli:l[i]?=some l[i]:=List.getElem?_eq_getElem (by omega)
   obtain ⟨b,o,ha,q⟩:=ixZ hr hli
   refine ⟨b,o,ha,by omega,by omega,_,q w1 hr,fun he=>?_,fun hne=>⟨⟨i+1,ay hi' hb,by omega,?_,rfl⟩,aB hi' hb⟩⟩
   · have hm:l.contains x=true:=by
       rw [List.contains_iff_mem]
       have:x=l[i]:=by simpa using he
       rw [this];exact List.getElem_mem _
     refine ⟨_,rfl,?_,rfl⟩
     rw [hm]
     simp
   · rw [List.take_add_one,hli,List.contains_eq_any_beq,List.any_append]
     rw [List.contains_eq_any_beq] at hno
     rw [hno]
     simpa using hne
 · have hi':i=n:=by simp at h;omega
   rw [hi',List.take_of_length_le (by omega)] at hno
   refine ⟨_,rfl,?_,rfl⟩
   rw [hno]
   rfl

def aV (S:Refs) (ps:List Int):Refs:=S.filter fun r=> !ps.contains r.pack
theorem vD {S:Refs} (h:Asc S) (ps:List Int):Asc (aV S ps):=h.sublist (List.filter_sublist)
section
variable {w0 w:World} {X:List Nat} {N:List Res}

theorem mT (gi gm:Nat) (S:Refs) (id:List UInt8) (hid:id.length=32) (h:fV w0 X w gi gm S N):
   Calls Tryz.prog 137 #[.pointer (some ⟨gi,0,none⟩),.agg (bv id).toArray] w fun e w'=>e=.returned (.tuple #[.agg (aF ((findF S id).getD dX)).toArray,.bool (findF S id).isSome])∧Chg [] w w':=by
 obtain ⟨es,clock,M,hE,hM,hS⟩:=h
 apply p7
 obtain ⟨g3,w1,r1,h1⟩:=(St.start w).cz (P:=Tryz.prog) 87 (bv id)
 obtain ⟨g4,w2,r2,h2⟩:=h1.aD rfZ
 have h2:St w [] w2 [.arr g3 87 (bv id),.arr g4 100 (aF dX)]:=h2
 have h2d:=h2.drew
 obtain ⟨x,hx⟩:∃x,findF S id=x:=⟨_,rfl⟩
 have LK:∀w',Chg [] w w'→(Instr.lookup 270 (.map (some gm)) (.agg (bv id).toArray) true).run Tryz.prog w'=.ok (.tuple #[.agg (aF (x.getD dX)).toArray,.bool x.isSome]) w':=by
   intro w' hc
   have hg:w'.heap[gm]?=some (.map es clock):=(hS.same hc).holds 1 _ rfl
   have hl:=hE.lookup (P:=Tryz.prog) (MW M) IU hg hid (z:=.agg (aF dX).toArray) rfZ
   have hf:=hM.find id
   rw [hx] at hf
   rw [hl]
   cases hq:dN bw.id M id with
   | none=>rw [hq] at hf;subst hf;rfl
   | some p=>rw [hq] at hf;subst hf;rfl
 have LM:∀w',Chg [] w w'→(Instr.loadAt 270 (.pointer (some ⟨gi,0,none⟩))).run Tryz.prog w'=.ok (.map (some gm)) w':=fun w' hc=>
   (hS.same hc).ldL (i:=0) (l:=[.map (some gm)]) rfl (mpA _) rfl rfl
 refine ⟨g3,w1,r1,g4,w2,r2,fun b o y w'=>o=0∧y=x.isSome∧St w [] w' [.arr g3 87 (bv id),.arr g4 100 (aF dX),.arr b 100 (aF (x.getD dX))],
   ⟨fun w'=>∃M',St w [] w' (.arr g3 87 (bv id):: .arr g4 100 (aF dX)::M'),⟨_,h2d⟩,.map (some gm),fun w' ⟨_,h'⟩=>LM w' h'.chg,(bv id).toArray,fun w' ⟨_,h'⟩=>h'.ldA (i:=0) (l:=bv id) rfl (Ea _) (zU _) (by simp [hid]),?_,?_⟩,?_⟩
 · obtain ⟨g6,w4,r4,h4⟩:=h2d.aD rfZ
   obtain ⟨w5,r5,h5⟩:=h4.stA (i:=2) (v:=aF (x.getD dX)) rfl (rfS _) (aJ _) (aJ _) (dR _)
   exact ⟨_,_,_,LK _ h2d.chg,_,fun _ h=>h,⟨_,h2d⟩,g6,w4,r4,_,fun _ h=>h,⟨_,h4⟩,w5,r5,rfl,rfl,h5⟩
 · obtain ⟨g6,w4,r4,h4⟩:=h2d.aD rfZ
   obtain ⟨w5,r5,h5⟩:=h4.stA (i:=2) (v:=aF (x.getD dX)) rfl (rfS _) (aJ _) (aJ _) (dR _)
   exact ⟨g6,w4,r4,_,fun _ h=>h,⟨_,h4⟩,_,_,_,LK _ h4.chg,_,fun _ h=>h,⟨_,h4⟩,w5,r5,rfl,rfl,h5⟩
 · rintro b o y w9 ⟨rfl,rfl,h9⟩
   obtain ⟨w10,r10,h10⟩:=h9.stA (i:=1) (v:=aF (x.getD dX)) rfl (rfS _) (aJ _) (aJ _) (dR _)
   exact ⟨_,h9.ldA (i:=2) (l:=aF (x.getD dX)) rfl (rfA _) (rfS _) (aJ _),w10,r10,_,h10.bQ (i:=1) (l:=aF (x.getD dX)) rfl (rfA _) (rfS _) (aJ _),by rw [hx],h10.chg⟩
end

end Go.Proofs.YtpmhjnhgpplmnaaGreatDoor
end

section
namespace Go.Proofs.YtpmhjnhgpplmnaaGreatDoor
open Go Sx
set_option maxRecDepth 8000

structure gx where
 K:List UInt8
 C:bH
 S:Refs
 dead:Bool
structure uJ where
 ps:List Nat
 gi:Nat
 gm:Nat
 es:Array MapEntry
 ck:Nat
 M:Refs
 sa:Option Addr
 sc:Nat
 pa:Option Addr
 pc:Nat
def fD (gd gi:Nat) (r:gx) (sa:Option Addr) (sc:Nat) (pa:Option Addr) (pc:Nat):List Value:=
 pV gd::pV gi::(bv r.K++(bP r.C sa r.C.snaps.length sc pa r.C.aq.length pc++ [.slice none 0 0,.bool r.dead]))
def lC (C:bH) (sa:Option Addr) (sc:Nat):Res:=.row 89 36 (.slice sa C.snaps.length sc) C.snaps.length (C.snaps.flatMap eE)
def kX (C:bH) (pa:Option Addr) (pc:Nat):Res:=.row 91 3 (.slice pa C.aq.length pc) C.aq.length (C.aq.flatMap pkC)
def ixR (gi gm:Nat) (es:Array MapEntry) (ck:Nat):List Res:=[.arr gi 272 [.map (some gm)],.blk gm (.map es ck)]
def uJ.T (q:uJ) (gd gr:Nat) (r:gx):List Res:=.arr gr 145 (fD gd q.gi r q.sa q.sc q.pa q.pc)::lC r.C q.sa q.sc::kX r.C q.pa q.pc::ixR q.gi q.gm q.es q.ck
structure ROk (r:gx) (q:uJ):Prop where
 KY:bF kyV vlV q.es q.ck q.M
 D6:nw q.M r.S
 kl:r.K.length=96
 poly:r.C.set.poly<W64
 chk:aI r.C=true
 cok:gB r.C
 names:∀s∈r.C.snaps,s.name.length≤4611686018427387904
 sn:r.C.snaps.length≤1000000
 pn:r.C.aq.length≤1000000
 good:∀x∈r.S,iK x=true∧x.len≤67000000
def yJ (w0 w:World) (gd gr:Nat) (m:ah) (r:gx) (N:List Res):Prop:=∃q:uJ,ROk r q∧aj w0 [] w gd q.ps m (N++q.T gd gr r)

theorem Lm (w:World):(isAgg 143).run Tryz.prog w=.ok false w:=Tryz.isAgg143 w
theorem Ja (w:World):(isAgg 29).run Tryz.prog w=.ok false w:=Tryz.isAgg29 w
theorem Ol (w:World):(isAgg 4).run Tryz.prog w=.ok false w:=Tryz.isAgg4 w
theorem tr {gd gi:Nat} {r:gx} (hk:r.K.length=96) (sa:Option Addr) (sc:Nat) (pa:Option Addr) (pc:Nat):(fD gd gi r sa sc pa pc).length=109:=by
 simp [fD,J4,hk]
theorem jR {gd gi:Nat} {r:gx} (hk:r.K.length=96) (sa:Option Addr) (sc:Nat) (pa:Option Addr) (pc:Nat):((fD gd gi r sa sc pa pc).drop 2).take 96=bv r.K:=by
 show (bv r.K++_).take 96=_
 rw [List.take_append_of_le_length (by simp [hk]),List.take_of_length_le (by simp [hk])]
theorem tV {gd gi:Nat} {r:gx} (hk:r.K.length=96) (sa:Option Addr) (sc:Nat) (pa:Option Addr) (pc:Nat):(fD gd gi r sa sc pa pc).drop 98=bP r.C sa r.C.snaps.length sc pa r.C.aq.length pc++ [.slice none 0 0,.bool r.dead]:=by
 show (bv r.K++_).drop 96=_
 rw [List.drop_append_of_le_length (by simp [hk]),List.drop_of_length_le (by simp [hk]),List.nil_append]
theorem wU {gd gi:Nat} {r:gx} (hk:r.K.length=96) (sa:Option Addr) (sc:Nat) (pa:Option Addr) (pc:Nat):((fD gd gi r sa sc pa pc).drop 98).take 9=bP r.C sa r.C.snaps.length sc pa r.C.aq.length pc:=by
 rw [tV hk];rfl
theorem rO {gd gi:Nat} {r:gx} (hk:r.K.length=96) (sa:Option Addr) (sc:Nat) (pa:Option Addr) (pc:Nat) (i:Nat):(fD gd gi r sa sc pa pc)[98+i]?=(bP r.C sa r.C.snaps.length sc pa r.C.aq.length pc++ [.slice none 0 0,.bool r.dead])[i]?:=by
 rw [←tV (gd:=gd) (gi:=gi) hk,List.getElem?_drop]

def kj (r:gx) (m:ah):Option Int:=if r.dead then some 22 else if m.down then some 1 else none
def getM (r:gx) (m:ah) (id:List UInt8):Option Int×List UInt8:=match kj r m with
 | some e=>(some e,[])
 | none=>match findF r.S id with
   | none=>(some 10,[])
   | some x=>if (gD m (aA x.pack) x.at_ x.len).isSome then (some 10,[]) else match gN r.K 2 id (eL m (aA x.pack) x.at_ x.len) with
     | none=>(some 10,[])
     | some p=>if idF r.K p=id then (none,p) else (some 10,[])

section
variable {w0 w w':World} {N:List Res} {gd gr:Nat} {m:ah} {r:gx} {q:uJ}

theorem ROk.idx (ok:ROk r q) (h:aj w0 [] w gd q.ps m (N++q.T gd gr r)):fV w0 [] w q.gi q.gm r.S []:=
 ⟨_,_,_,ok.KY,ok.D6,h.top.sub (List.Sublist.cons _ (List.Sublist.cons _ (List.Sublist.cons _ (List.Sublist.refl _))))⟩

theorem vo (ok:ROk r q) (h:aj w0 [] w gd q.ps m (N++q.T gd gr r)):Calls Tryz.prog 126 #[pV gr] w fun e w'=>e=.returned (bG (kj r m))∧w'=w:=by
 apply rA
 refine ⟨_,h.top.ldL (i:=0) (o:=108) rfl (Ol _) rfl (rO ok.kl q.sa q.sc q.pa q.pc 10),fun hd=>?_,fun hd=>?_⟩
 · unfold kj;rw [if_pos hd];exact ⟨rfl,rfl⟩
 refine ⟨_,_,h.top.ldL (i:=0) (o:=0) rfl (pdA _) rfl rfl,(uY h).mono ?_⟩
 rintro e w1 ⟨rfl,rfl⟩
 unfold kj
 rw [if_neg (by rw [hd];simp)]
 refine ⟨_,rfl,fun h=>?_,fun h=>?_⟩
 · rw [if_pos h];exact ⟨rfl,rfl⟩
 · rw [if_neg (by rw [h];simp)];exact ⟨rfl,rfl⟩

theorem Ax (ok:ROk r q) (h:aj w0 [] w gd q.ps m (N++q.T gd gr r)):Calls Tryz.prog 53 #[pV gr] w fun e w'=>e=.returned (.agg (bv r.K).toArray)∧Chg [] w w':=by
 apply sM
 obtain ⟨g2,w1,r1,k1⟩:=(St.start w).aD kyZ
 have k1:St w [] w1 [.arr g2 41 (bv (List.replicate 96 0))]:=k1
 obtain ⟨w2,r2,k2⟩:=k1.stA (i:=0) (v:=bv r.K) rfl (qg _) (by simp) (by simp [ok.kl]) (aO _)
 exact ⟨g2,w1,r1,_,(h.same k1.chg).top.ldP (i:=0) (o:=2) rfl (tJ _) (qg _) (jR ok.kl _ _ _ _) (by simp [ok.kl]),w2,r2,_,k2.bQ (i:=0) (l:=bv r.K) rfl (tJ _) (qg _) (by simp [ok.kl]),rfl,k2.chg⟩

theorem ROk.cat (ok:ROk r q) (h:aj w0 [] w gd q.ps m (N++q.T gd gr r)):AQ w r.C q.sa r.C.snaps.length q.sc q.pa r.C.aq.length q.pc:=
 ⟨ok.poly,⟨h.top.rd (i:=1) rfl,fun x _=>fk x⟩,⟨h.top.rd (i:=2) rfl,fun _ _=>rfl⟩,ok.names⟩
theorem iy (ok:ROk r q) (h:aj w0 [] w gd q.ps m (N++q.T gd gr r)):Calls Tryz.prog 16 #[pV gr] w fun e w'=>∃sa sc pa pc,e=.returned (.agg (bP r.C sa r.C.snaps.length sc pa r.C.aq.length pc).toArray)∧St w [] w' [lC r.C sa sc,kX r.C pa pc]:=by
 apply nQ
 obtain ⟨g2,w1,r1,k1⟩:=(St.start w).aD B4
 have k1:St w [] w1 [.arr g2 47 jK]:=k1
 have h1:=h.same k1.chg
 refine ⟨g2,w1,r1,_,h1.top.ldP (i:=0) (o:=98) rfl (kG _) (fT _) (wU ok.kl _ _ _ _) rfl,(BD r.C q.sa _ q.sc q.pa _ q.pc w1 (ok.cat h1) ok.sn ok.pn).mono ?_⟩
 rintro e w2 ⟨sa,sc,pa,pc,rfl,k2⟩
 have k3:=Sx.St.cq (N:=[]) (by rw [List.append_nil];exact k1) k2
 obtain ⟨w3,r3,k4⟩:=k3.stA (i:=0) (v:=bP r.C sa r.C.snaps.length sc pa r.C.aq.length pc) rfl (fT _) rfl rfl (mq _ _ _ _ _ _ _)
 exact ⟨_,rfl,w3,r3,_,k4.bQ (i:=0) (l:=bP r.C sa r.C.snaps.length sc pa r.C.aq.length pc) rfl (kG _) (fT _) rfl,sa,sc,pa,pc,rfl,k4.sub (List.Sublist.cons _ (List.Sublist.refl _))⟩
theorem CR (m:ah) (n:Nm) (i k:Int):(eL m n i k).length≤k.toNat:=by
 unfold eL
 split
 · simp
 · rw [List.length_take];omega

set_option maxHeartbeats 1000000 in
theorem DS (id:List UInt8) (hid:id.length=32) (ok:ROk r q) (h:aj w0 [] w gd q.ps m (N++q.T gd gr r)) (hK:cI w0) (hT:iE w0):Calls Tryz.prog 51 #[pV gr,.agg (bv id).toArray] w fun e w'=>∃a c,e=.returned (.tuple #[.slice a (getM r m id).2.length c,bG (getM r m id).1])∧St w [] w' [.row 5 1 (.slice a (getM r m id).2.length c) (getM r m id).2.length (bv (getM r m id).2)]:=by
 obtain ⟨mI,hI⟩:=eI
 have fin:∀ {w':World} {M':List Res} (e:Int),St w [] w' M'→getM r m id=(some e,[])→∃a c,Ending.returned (.tuple #[.slice none 0 0,bG (some e)])=.returned (.tuple #[.slice a (getM r m id).2.length c,bG (getM r m id).1])∧St w [] w' [.row 5 1 (.slice a (getM r m id).2.length c) (getM r m id).2.length (bv (getM r m id).2)]:=fun e k hg=>⟨none,0,by rw [hg];rfl,by rw [hg];exact (k.bZ 5 1).sub (List.sublist_append_right _ _)⟩
 apply uC
 obtain ⟨g3,w1,r1,k1⟩:=(St.start w).cz (P:=Tryz.prog) 87 (bv id)
 have k1:St w [] w1 [.arr g3 87 (bv id)]:=k1
 refine ⟨g3,w1,r1,(vo ok (h.same k1.chg)).mono ?_⟩
 rintro e w2 ⟨rfl,rfl⟩
 refine ⟨_,rfl,_,az hI _ _ _,fun hbad=>?_,fun hgood=>?_⟩
 · obtain ⟨y,hy⟩:=Option.isSome_iff_exists.1 hbad
   rw [hy]
   exact fin y k1 (by unfold getM;rw [hy])
 have hrd:kj r m=none:=by simpa using hgood
 have kd:=k1.drew
 have ldX:∀w',Chg [] w w'→(Instr.loadAt 143 (.pointer (some ⟨gr,0+1,none⟩))).run Tryz.prog w'=.ok (pV q.gi) w':=fun w' hc=>(h.same hc).top.ldL (i:=0) (o:=1) rfl (Lm _) rfl rfl
 obtain ⟨x,hx⟩:∃x,findF r.S id=x:=⟨_,rfl⟩
 refine ⟨fun b o y w'=>o=0∧y=x.isSome∧St w [] w' [.arr g3 87 (bv id),.arr b 100 (aF (x.getD dX))],⟨fun w'=>∃M',St w [] w' (.arr g3 87 (bv id)::M'),⟨_,kd⟩,_,_,fun w' ⟨_,h'⟩=>ldX w' h'.chg,_,fun w' ⟨_,h'⟩=>h'.ldA (i:=0) (l:=bv id) rfl (Ea _) (zU _) (by simp [hid]),?_,?_⟩,?_⟩
 · refine (mT q.gi q.gm r.S id hid (ok.idx (h.same kd.chg))).mono ?_
   rintro e w2 ⟨rfl,c2⟩
   rw [hx]
   have k2:=kd.same c2
   obtain ⟨g5,w3,r3,k3⟩:=k2.aD rfZ
   obtain ⟨w4,r4,k4⟩:=k3.stA (i:=1) (v:=aF (x.getD dX)) rfl (rfS _) (aJ _) (aJ _) (dR _)
   exact ⟨_,_,rfl,_,fun _ h=>h,⟨_,k2⟩,g5,w3,r3,_,fun _ h=>h,⟨_,k3⟩,w4,r4,rfl,rfl,k4⟩
 · obtain ⟨g5,w5,r5,k5⟩:=kd.aD rfZ
   refine ⟨g5,w5,r5,_,fun _ h=>h,⟨_,k5⟩,(mT q.gi q.gm r.S id hid (ok.idx (h.same k5.chg))).mono ?_⟩
   rintro e w2 ⟨rfl,c2⟩
   rw [hx]
   have k6:=k5.same c2
   obtain ⟨w4,r4,k4⟩:=k6.stA (i:=1) (v:=aF (x.getD dX)) rfl (rfS _) (aJ _) (aJ _) (dR _)
   exact ⟨_,_,rfl,_,fun _ h=>h,⟨_,k6⟩,w4,r4,rfl,rfl,k4⟩
 rintro b o y w9 ⟨rfl,rfl,k9⟩
 cases x with
 | none=>exact ⟨fun _=>fin 10 k9 (by unfold getM;rw [hrd,hx]),fun h=>by simp at h⟩
 | some x=>
   refine ⟨fun h=>by simp at h,fun _=>?_⟩
   obtain ⟨hg,hlen⟩:=ok.good x (List.mem_of_find?_eq_some hx)
   have hgp:cQ x.pack=true:=by
     unfold iK at hg
     simp only [Bool.and_eq_true,decide_eq_true_eq] at hg
     exact dy.2 ⟨hg.1.1.1,hg.1.1.2⟩
   have k9:St w [] w9 [.arr g3 87 (bv id),.arr b 100 (aF x)]:=k9
   have fl:∀ {w':World} {M':List Res},St w [] w' (.arr g3 87 (bv id):: .arr b 100 (aF x)::M')→_:=fun k=>uG k (i:=1) rfl
   refine ⟨fun w'=>∃M',St w [] w' (.arr g3 87 (bv id):: .arr b 100 (aF x)::M'),⟨_,k9.drew⟩,_,_,fun w' ⟨_,k⟩=>(h.same k.chg).top.ldL (i:=0) (o:=0) rfl (pdA _) rfl rfl,_,fun w' ⟨_,k⟩=>(fl k).1,_,fun w' ⟨_,k⟩=>(fl k).2.1,_,fun w' ⟨_,k⟩=>(fl k).2.2,(jj x.pack _ (hT.au (h.chg.trans k9.drew.chg)) hgp).mono ?_⟩
   rintro e w10 ⟨rfl,c10⟩
   have k10:=k9.drew.same c10
   refine ⟨_,rfl,_,fun _ h=>h,⟨_,k10⟩,(Ci (aA x.pack) x.at_ x.len x.ak x.lk (h.same k10.chg)).mono ?_⟩
   rintro e w11 ⟨ba,bn,bc,rfl,f11⟩
   have hbl:=f11.2.1
   have k11:=f11.add k10
   have k11:St w [] w11 (.arr g3 87 (bv id):: .arr b 100 (aF x):: [.row 5 1 (.slice ba bn bc) bn (bv (eL m (aA x.pack) x.at_ x.len))]):=k11
   obtain ⟨bl,hblo⟩:∃bl,eL m (aA x.pack) x.at_ x.len=bl:=⟨_,rfl⟩
   have hbn:bn≤67000000:=by have:=CR m (aA x.pack) x.at_ x.len;omega
   rw [hblo] at k11 hbl
   refine ⟨_,_,_,_,rfl,_,fun _ h=>h,⟨_,k11⟩,_,az hI _ _ _,fun hbad=>?_,fun hok=>?_⟩
   · exact fin 10 k11 (by unfold getM;rw [hrd,hx];simp only;rw [if_pos hbad])
   have hok':¬(gD m (aA x.pack) x.at_ x.len).isSome=true:=by rw [hok];simp
   have hgm:getM r m id=match gN r.K 2 id bl with | none=>(some 10,[]) | some p=>if idF r.K p=id then (none,p) else (some 10,[]):=by
     unfold getM;rw [hrd,hx];simp only;rw [if_neg hok',hblo]
   refine ⟨fun w'=>∃M',St w [] w' (.arr g3 87 (bv id)::M'),⟨_,k11.drew⟩,by omega,by omega,_,fun w' ⟨_,k⟩=>(h.same k.chg).top.ldP (i:=0) (o:=2) rfl (tJ _) (qg _) (jR ok.kl _ _ _ _) (by simp [ok.kl]),(z6 r.K 2 _ _ _ id ba bn bc bl _ ok.kl (hK.au (h.chg.trans k11.drew.chg)) (k11.drew.rdA (i:=0) rfl (by simp [hid])) (k11.drew.rd (i:=2) rfl) (by omega)).mono ?_⟩
   rintro e w12 ⟨pa,pn,pc,rfl,f12⟩
   have hpl:=f12.2.1
   have k12:=f12.add k11.drew
   refine ⟨_,_,_,_,rfl,_,fun _ h=>h,⟨_,k12⟩,_,az hI _ _ _,fun hbad=>?_,fun hok=>?_⟩
   · cases ho:gN r.K 2 id bl with
     | some p=>unfold pe at hbad;rw [ho] at hbad;simp at hbad
     | none=>
       have:pe r.K 2 id bl=some 10:=by unfold pe;rw [ho];rfl
       rw [this]
       exact fin 10 k12 (by rw [hgm,ho])
   cases ho:gN r.K 2 id bl with
   | none=>unfold pe at hok;rw [ho] at hok;simp at hok
   | some p=>
     rw [ho] at k12 hpl hgm
     have k12:St w [] w12 (.arr g3 87 (bv id):: .arr b 100 (aF x):: [.row 5 1 (.slice ba bn bc) bn (bv bl),.row 5 1 (.slice pa pn pc) pn (bv p)]):=k12
     have hpn:p.length=pn:=hpl
     have hpl2:=um ho (by omega)
     refine ⟨fun w'=>∃M',St w [] w' (.arr g3 87 (bv id)::M'),⟨_,k12.drew⟩,_,fun w' ⟨_,k⟩=>(h.same k.chg).top.ldP (i:=0) (o:=2) rfl (tJ _) (qg _) (jR ok.kl _ _ _ _) (by simp [ok.kl]),_,fun w' ⟨_,k⟩=>k.ldA (i:=0) (l:=bv id) rfl (Ea _) (zU _) (by simp [hid]),(Gk r.K pa pn pc p _ ok.kl (hK.au (h.chg.trans k12.drew.chg)) (k12.drew.rd (i:=3) rfl) (by omega)).mono ?_⟩
     rintro e w13 ⟨rfl,c13⟩
     have k13:=k12.drew.same c13
     refine ⟨_,rfl,_,fun _ h=>h,⟨_,k13⟩,_,fun w' _=>(LR _ _ _ _ (by simp [idF]) hid w').2,fun hne=>?_,fun heq=>?_⟩
     · exact fin 10 k13 (by rw [hgm];simp only;rw [if_neg (by simpa using hne)])
     · have:getM r m id=(none,p):=by rw [hgm];simp only;rw [if_pos (by simpa using heq)]
       rw [this,hpn]
       exact ⟨pa,pc,rfl,k13.sub (List.Sublist.cons _ (List.Sublist.cons _ (List.Sublist.cons _ (List.Sublist.refl _))))⟩
end

end Go.Proofs.YtpmhjnhgpplmnaaGreatDoor
end

section
namespace Go.Proofs.YtpmhjnhgpplmnaaGreatDoor
open Go Sx
set_option maxRecDepth 8000

section
variable {P:Program} {α:Type} {key val:α→Value} {kid:α→List UInt8} {KT:TypeId} {n:Nat} {w:World} {g:Nat} {es:Array MapEntry} {clock:Nat} {M:List α} {mt ET:TypeId}
theorem Sx.bF.F3 (hE:bF key val es clock M) (hK:zD P KT n key kid M) (hm:P.underlying mt=some (.map KT ET)) (hg:w.heap[g]?=some (.map es clock)) {id:List UInt8} (hl:id.length=n) {z:Value} (hz:∀w,(zeroValue ET).run P w=.ok z w):
   (Instr.lookup mt (.map (some g)) (.agg (bv id).toArray) false).run P w=.ok (((dN kid M id).map fun p=>val p.2).getD z) w:=by
 have hf:=hE.find hK hl w
 have hc:=hK.eq.chk hl es.isEmpty w
 cases h:dN kid M id with
 | none=>
   rw [h] at hf
   simp [Instr.lookup,getObj,run_underlying hm,Sem.run,hg,Result.andThen,hc,hf,hz]
 | some p=>
   rw [h] at hf
   simp [Instr.lookup,getObj,run_underlying hm,Sem.run,hg,Result.andThen,hc,hf]
theorem Sx.bF.push (hE:bF key val es clock M) {x:α} :bF key val (es.push { key:=key x,val:=val x,born:=clock }) (clock+1) (M++ [x]):=by
 refine ⟨?_,?_,?_⟩
 · rw [Array.toList_push,List.map_append,List.map_append,hE.AX]
   simp
 · rw [Array.toList_push,List.map_append,List.nodup_append]
   refine ⟨hE.born,by simp,?_⟩
   intro a ha b hb
   simp only [List.map_cons,List.map_nil,List.mem_singleton] at hb
   obtain ⟨x,hx,rfl⟩:=List.mem_map.1 ha
   have:=hE.old x hx
   omega
 · intro x hx
   rw [Array.toList_push,List.mem_append,List.mem_singleton] at hx
   rcases hx with hx | rfl
   · have:=hE.old x hx;omega
   · show clock<clock+1;omega
theorem Sx.bF.entry (hE:bF key val es clock M) (hK:zD P KT n key kid M) (hm:P.underlying mt=some (.map KT ET)) (hg:w.heap[g]?=some (.map es clock)) {id:List UInt8} (hl:id.length=n) (hno:dN kid M id=none) {z:Value} (hz:∀w,(zeroValue ET).run P w=.ok z w):
   (Instr.mapEntry mt (.map (some g)) (.agg (bv id).toArray)).run P w=.ok (.tuple #[z,.int .i64 (clock:Int)]) (w.putObj g (.map (es.push { key:=.agg (bv id).toArray,val:=z,born:=clock }) (clock+1))):=by
 have hf:=hE.find hK hl w
 rw [hno] at hf
 have hc:=hK.eq.chk hl false w
 have hset:∀o:Obj,(setObj g o).run P w=.ok () (w.putObj g o):=fun o=>by simp [setObj,Sem.run,hg,World.putObj]
 simp only [Instr.mapEntry,getObj,Sem.run_bind,run_underlying hm,Result.andThen_ok,Sem.run,hg,Result.andThen,hc,hf,Option.map_none,hz]
 rw [hset]
 rfl
theorem wq (hold:∀x∈es.toList,x.born<clock) {k v v':Value} (hg:w.heap[g]?=some (.map (es.push { key:=k,val:=v,born:=clock }) (clock+1))):
   (Instr.entryStore mt (.map (some g)) (.int .i64 (clock:Int)) v').run P w=.ok () (w.putObj g (.map (es.push { key:=k,val:=v',born:=clock }) (clock+1))):=by
 have hset:∀o:Obj,(setObj g o).run P w=.ok () (w.putObj g o):=fun o=>by simp [setObj,Sem.run,hg,World.putObj]
 have hix:(es.push { key:=k,val:=v,born:=clock }).findIdx? (fun e=>(e.born:Int)==(clock:Int))=some es.size:=by
   rw [Array.findIdx?_push]
   have:es.findIdx? (fun e=>(e.born:Int)==(clock:Int))=none:=by
     rw [Array.findIdx?_eq_none_iff]
     intro x hx
     have:=hold x (by simpa using hx)
     simp;omega
   rw [this]
   simp
 have hmod:(es.push { key:=k,val:=v,born:=clock }).modify es.size (fun e=> { e with val:=v' })=es.push { key:=k,val:=v',born:=clock } :=by
   apply Array.ext
   · simp
   · intro i h1 h2
     rw [Array.getElem_modify]
     by_cases hi:es.size=i
     · subst hi;simp
     · rw [if_neg hi]
       have:i<es.size:=by simp at h2;omega
       rw [Array.getElem_push_lt this,Array.getElem_push_lt this]
 have hai:(asInt (.int .i64 (clock:Int))).run P w=.ok (clock:Int) w:=by simp [asInt,asIntOf]
 simp only [Instr.entryStore,getObj,Sem.run_bind,Sem.run,hg,Result.andThen,hai,hix,hmod,Result.andThen_ok]
 exact hset _
end

def skK (p:List UInt8×Int):Value:=.agg (bv p.1).toArray
def skV (p:List UInt8×Int):Value:=.int .i64 p.2
theorem Kr:Tryz.prog.underlying 301=some (.map 87 3):=Tryz.underlying301
def iZ (ids:List (List UInt8)):List (List UInt8×Int):=ids.map fun i=>(i,1)
theorem MS {M:List (List UInt8×Int)} (h:∀x∈M,x.1.length=32):zD Tryz.prog 87 32 skK Prod.fst M:=⟨LZ,fun _=>rfl,h⟩
theorem KJ (w:World):(zeroValue 3).run Tryz.prog w=.ok (.int .i64 0) w:=Tryz.zeroValue3 w

theorem CN (ids:List (List UInt8)) (id:List UInt8):((dN Prod.fst (iZ ids) id).map fun p=>skV p.2).getD (.int .i64 0)=.int .i64 (if ids.contains id then 1 else 0):=by
 cases h:dN Prod.fst (iZ ids) id with
 | none=>
   have hn:=jV h
   have:ids.contains id=false:=by
     rw [←Bool.not_eq_true,List.contains_iff_mem]
     intro hm
     exact hn (id,1) (List.mem_map.2 ⟨id,hm,rfl⟩) rfl
   rw [this];rfl
 | some p=>
   obtain ⟨j,x⟩:=p
   obtain ⟨h1,h2⟩:=eT h
   obtain ⟨y,hy,rfl⟩:=List.mem_map.1 (List.mem_of_getElem? h1)
   have:ids.contains id=true:=by rw [List.contains_iff_mem,←h2];exact hy
   rw [this];rfl
theorem IC {ids:List (List UInt8)} {id:List UInt8} (h:ids.contains id=false):dN Prod.fst (iZ ids) id=none:=by
 cases hf:dN Prod.fst (iZ ids) id with
 | none=>rfl
 | some p=>
   obtain ⟨j,x⟩:=p
   obtain ⟨h1,h2⟩:=eT hf
   obtain ⟨y,hy,rfl⟩:=List.mem_map.1 (List.mem_of_getElem? h1)
   rw [←Bool.not_eq_true,List.contains_iff_mem] at h
   exact absurd (h2 ▸ hy) h
theorem H7 {ids:List (List UInt8)} {id:List UInt8} (h:ids.contains id=false):((dN Prod.fst (iZ ids++ [(id,0)]) id).map fun p=>skV p.2).getD (.int .i64 0)=.int .i64 0:=by
 have hn:∀x∈iZ ids,¬(x.1==id)=true:=fun x hx e=>by
   obtain ⟨y,hy,rfl⟩:=List.mem_map.1 hx
   rw [←Bool.not_eq_true,List.contains_iff_mem] at h
   exact h ((by simpa using e:y=id) ▸ hy)
 unfold dN
 have:(iZ ids++ [(id,0)]).findIdx? (fun r:List UInt8×Int=>r.1==id)=some (iZ ids).length:=by
   rw [List.findIdx?_append]
   have:(iZ ids).findIdx? (fun r:List UInt8×Int=>r.1==id)=none:=List.findIdx?_eq_none_iff.2 fun x hx=>by simpa using hn x hx
   rw [this];simp
 rw [this]
 simp [skV]

def iM (S:Refs) (drop:List Int) (id:List UInt8):Bool:=match findF S id with
 | some x=> !drop.contains x.pack
 | none=>false
def bL (K:List UInt8) (S:Refs) (drop:List Int) (st:List Itm×List (List UInt8)) (p:List UInt8):List Itm×List (List UInt8):=
 if st.2.contains (idF K p)||iM S drop (idF K p) then st else (st.1++ [(idF K p,dD K 2 (idF K p) p)],st.2++ [idF K p])
def fM (K:List UInt8) (S:Refs) (drop:List Int) (ps:List (List UInt8)):List Itm×List (List UInt8):=ps.foldl (bL K S drop) ([],[])
def aH (K:List UInt8) (S:Refs) (drop:List Int) (ps:List (List UInt8)):List Itm:=(fM K S drop ps).1
theorem Cc (K:List UInt8) (S:Refs) (drop:List Int) (ps:List (List UInt8)) (p:List UInt8):fM K S drop (ps++ [p])=bL K S drop (fM K S drop ps) p:=by simp [fM]
theorem y7 (K:List UInt8) (S:Refs) (drop:List Int):∀(ps:List (List UInt8)) (st:List Itm×List (List UInt8)),(∀x∈st.2,x.length=32)→(ps.foldl (bL K S drop) st).1.length≤st.1.length+ps.length∧∀x∈(ps.foldl (bL K S drop) st).2,x.length=32
 | [],st,h=>⟨by simp,h⟩
 | p::ps,st,h=>by
   have h2:(bL K S drop st p).1.length≤st.1.length+1∧∀x∈(bL K S drop st p).2,x.length=32:=by
     rw [bL]
     split
     · exact ⟨by omega,h⟩
     · refine ⟨by simp,fun x hx=>?_⟩
       simp only [List.mem_append,List.mem_singleton] at hx
       rcases hx with hx | rfl
       · exact h x hx
       · simp [idF]
   have ih:=y7 K S drop ps _ h2.2
   refine ⟨?_,ih.2⟩
   have:=ih.1
   rw [List.foldl_cons,List.length_cons]
   omega
theorem wT (K:List UInt8) (S:Refs) (drop:List Int) (ps:List (List UInt8)):(fM K S drop ps).1.length≤ps.length∧∀x∈(fM K S drop ps).2,x.length=32:=by
 have:=y7 K S drop ps ([],[]) (by simp)
 simpa [fM] using this
def vu (x:ItD):Res:=.row 5 1 (.slice x.a x.n x.c) x.n (bv x.iD)

end Go.Proofs.YtpmhjnhgpplmnaaGreatDoor
end

section
namespace Go.Proofs.YtpmhjnhgpplmnaaGreatDoor
open Go Sx
set_option maxRecDepth 8000

theorem NZ:gz Tryz.prog 212 303 33 56 (.agg (itC it0).toArray):=⟨by kernel_rfl,⟨Tryz.t303,by kernel_rfl,by kernel_rfl,by kernel_rfl,by kernel_rfl⟩,rfl,by decide⟩
theorem A5:Tryz.prog.built 303=fun parts=>Instr.fill (fun i=>(#[(0,32),(32,1)]:Array (Nat×Nat))[i]?) (itC it0).toArray parts:=by kernel_rfl
theorem A6 (id:List UInt8) (a:Option Addr) (n c:Nat) (w:World) (hl:id.length=32):(Instr.build 303 #[(0,.agg (bv id).toArray),(1,.slice a n c)]).run Tryz.prog w=.ok (.agg (bv id++ [Value.slice a n c]).toArray) w:=by
 apply run_build
 rw [A5]
 show Instr.fill _ _ [(0,_),(1,_)]=_
 have hz:(itC it0).toArray=(bv (List.replicate 32 0)++ [Value.slice none 0 0]).toArray:=rfl
 rw [hz,aC (off:=0) (sz:=32) rfl (by simp [Value.cells,hl]) (by simp),aC (off:=32) (sz:=1) rfl rfl (by simp [Value.cells,hl])]
 have hbl:(bv id).length=32:=by simp [hl]
 simp [Instr.fill,Value.cells,List.take_append,List.drop_append,hbl,List.take_of_length_le,List.drop_of_length_le,hl]

section
variable {w0 w w':World} {N:List Res} {gd gr:Nat} {m:ah} {r:gx} {q:uJ}

set_option maxHeartbeats 4000000 in
theorem FW (a1:Option Addr) (n1 c1:Nat) (vs:List Value) (ls:List (List UInt8)) (a2:Option Addr) (n2 c2:Nat) (drop:List Int) (ok:ROk r q) (h:aj w0 [] w gd q.ps m (N++q.T gd gr r)) (hK:cI w0)
   (hra:Rd w a1 n1 c1 1 vs) (hrb:cH w vs ls) (hrz:RdZ w a2 n2 c2 drop) (hn1:n1≤1000000) (hn2:n2≤1000000) (hls:∀l∈ls,l.length≤67000000):
   Calls Tryz.prog 127 #[pV gr,.slice a1 n1 c1,.slice a2 n2 c2] w fun e w'=>∃(a:Option Addr) (c:Nat) (O:List ItD),e=.returned (.slice a O.length c)∧O.map ItD.t=aH r.K r.S drop ls∧St w [] w' (.row 303 33 (.slice a O.length c) O.length (O.flatMap itC)::O.map vu):=by
 have hvl:vs.length=n1:=by have:=hra.len;omega
 have hll:ls.length=n1:=by rw [←hrb.len];exact hvl
 apply qQ
 have k0:St w [] (w.alloc (.map #[] 0)) [.blk w.heap.size (.map #[] 0)]:=(St.start w).add (Chg.alloc _ _) (heap_alloc_new w _) (by simp [Res.fp])
 obtain ⟨gs,hgs⟩:∃gs,w.heap.size=gs:=⟨_,rfl⟩
 rw [hgs] at k0
 have ldK:∀ {w':World},Chg [] w w'→(Instr.loadAt 41 (.pointer (some ⟨gr,0+2,none⟩))).run Tryz.prog w'=.ok (.agg (bv r.K).toArray) w':=fun hc=>(h.same hc).top.ldP (i:=0) (o:=2) rfl (tJ _) (qg _) (jR ok.kl _ _ _ _) (by simp [ok.kl])
 have ldX:∀ {w':World},Chg [] w w'→(Instr.loadAt 143 (.pointer (some ⟨gr,0+1,none⟩))).run Tryz.prog w'=.ok (pV q.gi) w':=fun hc=>(h.same hc).top.ldL (i:=0) (o:=1) rfl (Lm _) rfl rfl
 let L (a:Option Addr) (c:Nat) (O:List ItD) (es:Array MapEntry) (ck:Nat):List Res:=.blk gs (.map es ck):: .row 303 33 (.slice a O.length c) O.length (O.flatMap itC)::O.map vu
 have k1:St w [] (w.alloc (.map #[] 0)) (L none 0 [] #[] 0):=k0.bZ 303 33
 refine ⟨.map (some gs),_,by rw [←hgs];rfl,fun a n c x w'=>∃(i:Nat) (O:List ItD) (es:Array MapEntry) (ck:Nat),x=(i:Int)∧i≤n1∧n=O.length∧O.map ItD.t=(fM r.K r.S drop (ls.take i)).1∧bF skK skV es ck (iZ (fM r.K r.S drop (ls.take i)).2)∧St w [] w' (L a c O es ck),fun _ _ _ x _=>n1-x.toNat,⟨0,[], #[],0,rfl,by omega,rfl,by simp [fM],by simpa [fM,iZ] using bF.nil skK skV,k1⟩,?_⟩
 rintro a n c x w2 ⟨i,O,es,ck,rfl,hi,rfl,hO,hE,k2⟩
 refine ⟨fun hlt=>?_,fun hge=>?_⟩
 rotate_left
 · have hi':i=n1:=by simp at hge;omega
   rw [hi',←hll,List.take_length] at hO
   exact ⟨a,c,O,rfl,hO,k2.sub (List.Sublist.cons _ (List.Sublist.refl _))⟩
 have hi':i<n1:=by simp at hlt;omega
 obtain ⟨b,o,pa,pn,pc,hab,hv,hpr,hld⟩:=ixS hra.cells hrb (i:=i) (by omega)
 obtain ⟨p,hp⟩:∃p,ls.getD i []=p:=⟨_,rfl⟩
 have hpm:ls[i]?=some p:=by rw [←hp,List.getD,List.getElem?_eq_getElem (by omega)];simp
 rw [hp] at hpr
 have hpl:p.length≤67000000:=hls p (List.mem_of_getElem? hpm)
 have hpn:p.length=pn:=hpr.bB
 obtain ⟨st,hst⟩:∃st,fM r.K r.S drop (ls.take i)=st:=⟨_,rfl⟩
 have hlen:=wT r.K r.S drop (ls.take i)
 have hnext:fM r.K r.S drop (ls.take (i+1))=bL r.K r.S drop st p:=by rw [List.take_add_one,hpm,←hst];exact Cc _ _ _ _ _
 rw [hst] at hO hE hlen
 have hOl:O.length≤i:=by
   have h1:=congrArg List.length hO
   rw [List.length_map] at h1
   have h2:=hlen.1
   have h3:(ls.take i).length≤i:=by simp;omega
   omega
 refine ⟨b,o,hab,by omega,by omega,pa,pn,pc,hld w2 (hra.au k2.chg).cells,_,ldK k2.chg,(Gk r.K pa pn pc p w2 ok.kl (hK.au (h.chg.trans k2.chg)) (hpr.au k2.chg) (by omega)).mono ?_⟩
 rintro e w3 ⟨rfl,c3⟩
 obtain ⟨id,hid⟩:∃id,idF r.K p=id:=⟨_,rfl⟩
 have hidl:id.length=32:=by rw [←hid];simp [idF]
 rw [hid]
 have k3:=k2.same c3
 obtain ⟨g11,w4,r4,k4⟩:=k3.aD idZ
 obtain ⟨w5,r5,k5⟩:=k4.stA (i:=(L a c O es ck).length) (v:=bv id) List.getElem?_concat_length (zU _) (by simp) (by simp [hidl]) (aO _)
 have k5:St w [] w5 (L a c O es ck++ [.arr g11 87 (bv id)]):=by
   have e:(L a c O es ck++ [Res.arr g11 87 (bv (List.replicate 32 0))]).set (L a c O es ck).length (.arr g11 87 (bv id))=L a c O es ck++ [.arr g11 87 (bv id)]:=by simp
   rw [←e];exact k5
 obtain ⟨y,hy⟩:∃y,findF r.S id=y:=⟨_,rfl⟩
 refine ⟨_,rfl,g11,w4,r4,w5,r5,fun g12 o12 ok12 w'=>o12=0∧ok12=y.isSome∧St w [] w' (L a c O es ck++ [.arr g11 87 (bv id),.arr g12 100 (aF (y.getD dX))]),?_,?_⟩
 · have k5d:=k5.drew
   have S1:∀ {w':World} {M':List Res} {j:Nat},St w [] w' M'→M'[j]?=some (.arr g11 87 (bv id))→(Instr.loadAt 87 (.pointer (some ⟨g11,0,none⟩))).run Tryz.prog w'=.ok (.agg (bv id).toArray) w':=fun k hj=>k.ldA hj (Ea _) (zU _) (by simp [hidl])
   have e11:(L a c O es ck++ [Res.arr g11 87 (bv id)])[(L a c O es ck).length]?=some (.arr g11 87 (bv id)):=List.getElem?_concat_length
   have e12:∀R,((L a c O es ck++ [Res.arr g11 87 (bv id)])++ [R])[(L a c O es ck).length]?=some (.arr g11 87 (bv id)):=fun R=>by rw [List.getElem?_append_left (by simp)];exact e11
   have fin:∀ {w':World} {g:Nat},St w [] w' ((L a c O es ck++ [.arr g11 87 (bv id)])++ [.arr g 100 (aF dX)])→∃w'',(Instr.storeAt 100 (.pointer (some ⟨g,0,none⟩)) (.agg (aF (y.getD dX)).toArray)).run Tryz.prog w'=.ok () w''∧St w [] w'' (L a c O es ck++ [.arr g11 87 (bv id),.arr g 100 (aF (y.getD dX))]):=fun {w' g} k=>by
     obtain ⟨w'',r'',k''⟩:=k.stA (i:=(L a c O es ck++ [Res.arr g11 87 (bv id)]).length) (v:=aF (y.getD dX)) List.getElem?_concat_length (rfS _) (aJ _) (aJ _) (dR _)
     have e:((L a c O es ck++ [Res.arr g11 87 (bv id)])++ [Res.arr g 100 (aF dX)]).set (L a c O es ck++ [Res.arr g11 87 (bv id)]).length (.arr g 100 (aF (y.getD dX)))=L a c O es ck++ [.arr g11 87 (bv id),.arr g 100 (aF (y.getD dX))]:=by simp
     exact ⟨w'',r'',by rw [←e];exact k''⟩
   refine ⟨fun w'=>∃(M':List Res) (j:Nat),St w [] w' M'∧M'[j]?=some (.arr g11 87 (bv id)),⟨_,_,k5d,e11⟩,_,_,fun w' ⟨_,_,k,_⟩=>ldX k.chg,_,fun w' ⟨_,_,k,hj⟩=>S1 k hj,?_,?_⟩
   · refine (mT q.gi q.gm r.S id hidl (ok.idx (h.same k5d.chg))).mono ?_
     rintro e w6 ⟨rfl,c6⟩
     rw [hy]
     have k6:=k5d.same c6
     obtain ⟨g12,w7,r7,k7⟩:=k6.aD rfZ
     obtain ⟨w8,r8,k8⟩:=fin k7
     exact ⟨_,_,rfl,_,fun _ h=>h,⟨_,_,k6,e11⟩,g12,w7,r7,_,fun _ h=>h,⟨_,_,k7,e12 _⟩,w8,r8,rfl,rfl,k8⟩
   · obtain ⟨g12,w7,r7,k7⟩:=k5d.aD rfZ
     refine ⟨g12,w7,r7,_,fun _ h=>h,⟨_,_,k7,e12 _⟩,(mT q.gi q.gm r.S id hidl (ok.idx (h.same k7.chg))).mono ?_⟩
     rintro e w6 ⟨rfl,c6⟩
     rw [hy]
     have k6:=k7.same c6
     obtain ⟨w8,r8,k8⟩:=fin k6
     exact ⟨_,_,rfl,_,fun _ h=>h,⟨_,_,k6,e12 _⟩,w8,r8,rfl,rfl,k8⟩
 rintro g12 o12 ok12 w12 ⟨rfl,rfl,k12⟩
 have e11:(L a c O es ck++ [Res.arr g11 87 (bv id),.arr g12 100 (aF (y.getD dX))])[(L a c O es ck).length]?=some (.arr g11 87 (bv id)):=by rw [List.getElem?_append_right (Nat.le_refl _)];simp
 have e12:(L a c O es ck++ [Res.arr g11 87 (bv id),.arr g12 100 (aF (y.getD dX))])[(L a c O es ck).length+1]?=some (.arr g12 100 (aF (y.getD dX))):=by rw [List.getElem?_append_right (by omega)];simp
 have e0:(L a c O es ck++ [Res.arr g11 87 (bv id),.arr g12 100 (aF (y.getD dX))])[0]?=some (.blk gs (.map es ck)):=rfl
 have S1:∀ {w':World} {M':List Res} {j:Nat},St w [] w' M'→M'[j]?=some (.arr g11 87 (bv id))→(Instr.loadAt 87 (.pointer (some ⟨g11,0,none⟩))).run Tryz.prog w'=.ok (.agg (bv id).toArray) w':=fun k hj=>k.ldA hj (Ea _) (zU _) (by simp [hidl])
 have hsk:∀x∈iZ st.2,x.1.length=32:=fun x hx=>by
   obtain ⟨z,hz,rfl⟩:=List.mem_map.1 hx
   exact hlen.2 z hz
 have hlk:(Instr.lookup 301 (.map (some gs)) (.agg (bv id).toArray) false).run Tryz.prog w12=.ok (.int .i64 (if st.2.contains id then 1 else 0)) w12:=by
   rw [hE.F3 (MS hsk) Kr (k12.holds 0 _ e0) hidl KJ,CN]
 refine ⟨fun s w'=>s=(st.2.contains id||iM r.S drop id)∧Chg [] w w'∧St w [] w' (L a c O es ck++ [.arr g11 87 (bv id),.arr g12 100 (aF (y.getD dX))]),⟨_,S1 k12 e11,_,hlk,fun hpos=>?_,fun hnp=>⟨fun hok=>?_,fun hno=>?_⟩⟩,?_⟩
 · have:st.2.contains id=true:=by
     cases hc:st.2.contains id with
     | true=>rfl
     | false=>rw [hc] at hpos;simp at hpos
   exact ⟨by rw [this];rfl,k12.chg,k12⟩
 · have hc:st.2.contains id=false:=by
     cases hc:st.2.contains id with
     | false=>rfl
     | true=>rw [hc] at hnp;simp at hnp
   obtain ⟨x,hx⟩:=Option.isSome_iff_exists.1 hok
   subst hx
   refine ⟨_,(uG k12 e12).1,(kr a2 n2 c2 drop x.pack w12 (hrz.au k12.chg) (by omega)).mono ?_⟩
   rintro e w13 ⟨rfl,rfl⟩
   exact ⟨_,rfl,by rw [hc,iM,hy];rfl,k12.chg,k12⟩
 · have hc:st.2.contains id=false:=by
     cases hc:st.2.contains id with
     | false=>rfl
     | true=>rw [hc] at hnp;simp at hnp
   have hyn:y=none:=by simpa using hno
   exact ⟨by rw [hc,iM,hy,hyn];rfl,k12.chg,k12⟩
 rintro s w14 ⟨hs,_,k14⟩
 refine ⟨fun hT=>?_,fun hF=>?_⟩
 · rw [hs] at hT
   have hstep:bL r.K r.S drop st p=st:=by rw [bL,hid,if_pos hT]
   refine ⟨⟨i+1,O,es,ck,ay hi' (by omega),by omega,rfl,by rw [hnext,hstep];exact hO,by rw [hnext,hstep];exact hE,k14.sub (List.sublist_append_left _ _)⟩,aB hi' (by omega)⟩
 rw [hs] at hF
 have hcs:st.2.contains id=false:=by simp only [Bool.or_eq_false_iff] at hF;exact hF.1
 have hstep:bL r.K r.S drop st p=(st.1++ [(id,dD r.K 2 id p)],st.2++ [id]):=by rw [bL,hid,if_neg (by rw [hF];simp)]
 have k14d:=k14.drew
 refine ⟨fun w'=>∃(M':List Res) (j:Nat) (es:Array MapEntry) (ck:Nat) (Ms:List (List UInt8×Int)),St w [] w' M'∧M'[j]?=some (.arr g11 87 (bv id))∧M'[0]?=some (.blk gs (.map es ck))∧bF skK skV es ck Ms∧(∀x∈Ms,x.1.length=32)∧((dN Prod.fst Ms id).map fun p=>skV p.2).getD (.int .i64 0)=.int .i64 0,⟨_,_,_,_,_,k14d,e11,e0,hE,hsk,by rw [CN,hcs];rfl⟩,_,fun w' ⟨_,_,_,_,_,k,hj,_⟩=>S1 k hj,0,fun w' ⟨_,_,es',ck',_,k,_,h0,hE',hk',hz⟩=>by rw [hE'.F3 (MS hk') Kr (k.holds 0 _ h0) hidl KJ,hz],.int .i64 0,(ck:Int),_,hE.entry (MS hsk) Kr (k14d.holds 0 _ e0) hidl (IC hcs) KJ,?_⟩
 have hpE:bF skK skV (es.push { key:=.agg (bv id).toArray,val:=.int .i64 0,born:=ck }) (ck+1) (iZ st.2++ [(id,0)]):=hE.push (x:=(id,0))
 have hpE1:bF skK skV (es.push { key:=.agg (bv id).toArray,val:=.int .i64 1,born:=ck }) (ck+1) (iZ (st.2++ [id])):=by
   have:=hE.push (x:=(id,1))
   rw [show iZ (st.2++ [id])=iZ st.2++ [(id,1)] by simp [iZ]]
   exact this
 have k15:=St.uD k14d (o':=.map (es.push { key:=.agg (bv id).toArray,val:=.int .i64 0,born:=ck }) (ck+1)) e0
 have k15:St w [] _ (L a c O (es.push { key:=.agg (bv id).toArray,val:=.int .i64 0,born:=ck }) (ck+1)++ [.arr g11 87 (bv id),.arr g12 100 (aF (y.getD dX))]):=k15
 have hll2:∀es' ck',(L a c O es' ck').length=(L a c O es ck).length:=fun _ _=>rfl
 have e11':∀es' ck',(L a c O es' ck'++ [Res.arr g11 87 (bv id),.arr g12 100 (aF (y.getD dX))])[(L a c O es ck).length]?=some (.arr g11 87 (bv id)):=fun es' ck'=>by rw [List.getElem?_append_right (by rw [hll2 es' ck'];exact Nat.le_refl _),hll2 es' ck',Nat.sub_self];rfl
 refine ⟨_,fun _ h=>h,⟨_,_,_,_,_,k15,e11' _ _,rfl,hpE,fun x hx=>?_,H7 hcs⟩,_,wq hE.old (k15.holds 0 _ rfl),?_⟩
 · rcases List.mem_append.1 hx with hx | hx
   · exact hsk x hx
   · rw [List.mem_singleton.1 hx];exact hidl
 have k16:=St.uD k15 (i:=0) (o':=.map (es.push { key:=.agg (bv id).toArray,val:=.int .i64 1,born:=ck }) (ck+1)) rfl
 have k16:St w [] _ (L a c O (es.push { key:=.agg (bv id).toArray,val:=.int .i64 1,born:=ck }) (ck+1)++ [.arr g11 87 (bv id),.arr g12 100 (aF (y.getD dX))]):=k16
 have k16d:=k16.drew
 refine ⟨fun w'=>∃(M':List Res) (j:Nat),St w [] w' M'∧M'[j]?=some (.arr g11 87 (bv id)),⟨_,_,k16d,e11' _ _⟩,by omega,by omega,_,fun w' ⟨_,_,k,hj⟩=>S1 k hj,_,fun w' ⟨_,_,k,_⟩=>ldK k.chg,(pI r.K 2 _ _ _ id pa pn pc p _ ok.kl (hK.au (h.chg.trans k16d.chg)) (k16d.rdA (e11' _ _) (by simp [hidl])) (hpr.au k16d.chg) (by omega)).mono ?_⟩
 rintro e w17 ⟨ba,bn,bc,rfl,f17⟩
 have hbn:=f17.2.1
 have k17:=f17.add k16d
 have ex:∀R,((L a c O (es.push { key:=.agg (bv id).toArray,val:=.int .i64 1,born:=ck }) (ck+1)++ [Res.arr g11 87 (bv id),.arr g12 100 (aF (y.getD dX))])++R)[(L a c O es ck).length]?=some (.arr g11 87 (bv id)):=fun R=>by rw [List.getElem?_append_left (by rw [List.length_append];exact Nat.lt_add_of_pos_right (by simp))];exact e11' _ _
 obtain ⟨g18,w18,va,vc,w19,r18,r19,k19,k18⟩:=k17.sH (i:=1) NZ rfl (bv id++ [.slice ba bn bc]) (by simp [hidl]) (by decide) (fun v hv=>by
   rcases List.mem_append.1 hv with hv | hv
   · exact aO _ v hv
   · rw [List.mem_singleton.1 hv];rfl) (by omega) (by rw [show maxLen=9223372036854775807 from rfl];omega)
 refine ⟨_,_,_,rfl,_,fun _ h=>h,⟨_,_,k17,ex _⟩,_,fun w' _=>A6 id ba bn bc w' hidl,_,_,_,w18,r18,_,fun _ h=>h,⟨_,_,k18,ex _⟩,_,_,_,w19,r19,_,fun _ h=>h,⟨_,_,k19,by rw [List.getElem?_set_ne (by show 1≠(O.map vu).length+2;omega)];exact ex _⟩,?_⟩
 obtain ⟨x,hx⟩:∃x:ItD,(⟨id,ba,bn,bc,dD r.K 2 id p,hidl⟩:ItD)=x:=⟨_,rfl⟩
 refine ⟨⟨i+1,O++ [x],_,_,ay hi' (by omega),by omega,by simp,?_,by rw [hnext,hstep];exact hpE1,?_⟩,aB hi' (by omega)⟩
 · rw [hnext,hstep,List.map_append,hO,←hx];rfl
 · have e1:(O++ [x]).flatMap itC=O.flatMap itC++(bv id++ [.slice ba bn bc]):=by rw [List.flatMap_append,←hx,List.flatMap_cons,List.flatMap_nil,List.append_nil];rfl
   show St w [] w19 (.blk gs _:: .row 303 33 (.slice va (O++ [x]).length vc) (O++ [x]).length ((O++ [x]).flatMap itC)::(O++ [x]).map vu)
   rw [e1,List.length_append,List.map_append,←hx]
   exact k19.sub (List.Sublist.cons_cons _ (List.Sublist.cons_cons _ (List.Sublist.append (List.sublist_append_left _ _) (List.Sublist.refl _))))
end

end Go.Proofs.YtpmhjnhgpplmnaaGreatDoor
end

section
namespace Go.Proofs.YtpmhjnhgpplmnaaGreatDoor
open Go Sx
set_option maxRecDepth 8000

def cr (drop:List Int) (ps:List PkD):List PkD:=ps.filter fun p=>drop.contains p.num
def bt (drop:List Int) (ps:List PkD):List PkD:=ps.filter fun p=> !drop.contains p.num
def sO (C:bH) (grows:Bool):Bool:=C.gen==1099511627776||(grows&&C.next==1099511627776)
def bR (C:bH) (snaps:List cU) (drop:List Int) (grows:Bool):bH:=⟨C.gen+1,if grows then C.next+1 else C.next,C.set,snaps,bt drop C.aq++if grows then [⟨C.next,0,0⟩] else []⟩
noncomputable def iH (C:bH) (snaps:List cU) (drop:List Int) (grows:Bool):Option Int:=
 if sO C grows then some 20 else if (bR C snaps drop grows).aq.length>1024 then some 19 else if aI (bR C snaps drop grows) then none else some 28
theorem E8 (drop:List Int) (ps:List PkD) (p:PkD):cr drop (ps++ [p])=if drop.contains p.num then cr drop ps++ [p] else cr drop ps:=by
 unfold cr;rw [List.filter_append];by_cases h:p.num∈drop<;>simp [h]
theorem EW (drop:List Int) (ps:List PkD) (p:PkD):bt drop (ps++ [p])=if drop.contains p.num then bt drop ps else bt drop ps++ [p]:=by
 unfold bt;rw [List.filter_append];by_cases h:p.num∈drop<;>simp [h]
theorem uX (drop:List Int) (ps:List PkD):(cr drop ps).length≤ps.length:=List.length_filter_le _ _
theorem uV (drop:List Int) (ps:List PkD):(bt drop ps).length≤ps.length:=List.length_filter_le _ _

def xD (g n:Int) (s:iS) (u v:Value):List Value:=[.int .i64 g,.int .i64 n]++(cZ s++ [u,v])
theorem DQ (g n:Int) (s:iS) {u v:Value} (hu:u.oneCell'=true) (hv:v.oneCell'=true):∀x∈xD g n s u v,x.oneCell'=true:=fun x hx=>by
 simp only [xD,cZ,List.mem_append,List.mem_cons,List.not_mem_nil,or_false] at hx
 rcases hx with (rfl | rfl) | (rfl | rfl | rfl | rfl | rfl) | rfl | rfl<;>first | rfl | assumption
theorem Mg (w:World):(zeroValue 91).run Tryz.prog w=.ok (.agg (pkC ⟨0,0,0⟩).toArray) w:=Tryz.zeroValue91 w
theorem Oy (w:World):(sizeOf 25).run Tryz.prog w=.ok 1 w:=Tryz.sizeOf25 w
theorem Mo (w:World):(sizeOf 45).run Tryz.prog w=.ok 1 w:=Tryz.sizeOf45 w
theorem Hw (w:World):(isAgg 45).run Tryz.prog w=.ok false w:=Tryz.isAgg45 w
theorem N9 (w:World):(sizeOf 3).run Tryz.prog w=.ok 1 w:=Tryz.sizeOf3 w
theorem pL (p:PkD):∀v∈pkC p,v.oneCell'=true:=fun v hv=>by
 simp only [pkC,List.mem_cons,List.not_mem_nil,or_false] at hv
 rcases hv with rfl | rfl | rfl<;>rfl
theorem FG (x:Int) (w:World):(Instr.build 91 #[(0,.int .i64 x)]).run Tryz.prog w=.ok (.agg (pkC ⟨x,0,0⟩).toArray) w:=by
 have hb:Tryz.prog.built 91=fun parts=>Instr.fill (fun i=>(#[(0,1),(1,1),(2,1)]:Array (Nat×Nat))[i]?) ([.int .i64 0,.int .i64 0,.int .i64 0]:List Value).toArray parts:=by kernel_rfl
 apply run_build
 rw [hb]
 show Instr.fill _ _ [(0,_)]=_
 rw [aC (off:=0) (sz:=1) rfl rfl (by simp [Value.cells])]
 rfl
theorem bh {C:bH} (h:aI C=true):(1≤C.gen∧C.gen≤1099511627776)∧(0≤C.next∧C.next≤1099511627776)∧C.snaps.length≤64∧C.aq.length≤1024:=by
 unfold aI jA at h
 simp only [Bool.and_eq_true,decide_eq_true_eq] at h
 exact ⟨⟨h.1.1.1,h.1.1.2.1⟩,⟨h.1.1.2.2.1,h.1.1.2.2.2⟩,h.1.2.2.1,h.1.2.2.2⟩

section
variable {w0 w w':World} {N:List Res} {gd gr:Nat} {m:ah} {r:gx} {q:uJ}

set_option maxHeartbeats 4000000 in
theorem Hf (a1:Option Addr) (n1 c1:Nat) (snaps:List cU) (a2:Option Addr) (n2 c2:Nat) (drop:List Int) (grows:Bool) (ok:ROk r q) (h:aj w0 [] w gd q.ps m (N++q.T gd gr r))
   (hs:RdS w a1 n1 c1 snaps) (hsl:∀s∈snaps,s.name.length≤4611686018427387904) (hrz:RdZ w a2 n2 c2 drop) (hn1:n1≤1000000) (hn2:n2≤1000000):
   Calls Tryz.prog 128 #[pV gr,.slice a1 n1 c1,.slice a2 n2 c2,.bool grows] w fun e w'=>∃(cs:List Value) (ga:Option Addr) (gn gc:Nat),e=.returned (.tuple #[.agg cs.toArray,.slice ga gn gc,bG (iH r.C snaps drop grows)])∧cs.length=9∧(∀v∈cs,v.oneCell'=true)∧Chg [] w w'∧
     (iH r.C snaps drop grows=none→∃sa sc pa pc,cs=bP (bR r.C snaps drop grows) sa (bR r.C snaps drop grows).snaps.length sc pa (bR r.C snaps drop grows).aq.length pc∧gn=(cr drop r.C.aq).length∧
       St w [] w' [lC (bR r.C snaps drop grows) sa sc,kX (bR r.C snaps drop grows) pa pc,.row 91 3 (.slice ga gn gc) gn ((cr drop r.C.aq).flatMap pkC)]):=by
 have hbd:=bh ok.chk
 have hsn:snaps.length=n1:=hs.num (by decide)
 subst hsn
 apply sQ
 obtain ⟨g8,w1,r1,k1⟩:=(St.start w).aD B4
 have k1:St w [] w1 [.arr g8 47 jK]:=k1
 obtain ⟨g11,w2,r2,k2⟩:=k1.aD B4
 have k2:St w [] w2 [.arr g8 47 jK,.arr g11 47 jK]:=k2
 obtain ⟨w3,r3,k3⟩:=k2.stA (i:=1) (v:=bP r.C q.sa r.C.snaps.length q.sc q.pa r.C.aq.length q.pc) rfl (fT _) rfl rfl (mq _ _ _ _ _ _ _)
 have k3:St w [] w3 [.arr g8 47 jK,.arr g11 47 (xD r.C.gen r.C.next r.C.set (.slice q.sa r.C.snaps.length q.sc) (.slice q.pa r.C.aq.length q.pc))]:=k3
 have ending:∀ {w':World} {M:List Res} {g n:Int} {s:iS} {u v:Value} {ga:Option Addr} {gn gc:Nat} (y:Int),St w [] w' (.arr g8 47 jK:: .arr g11 47 (xD g n s u v)::M)→u.oneCell'=true→v.oneCell'=true→iH r.C snaps drop grows=some y→
     ∃t,(Instr.loadAt 47 (.pointer (some ⟨g11,0,none⟩))).run Tryz.prog w'=.ok (.agg t) w'∧∃w'',(Instr.storeAt 47 (.pointer (some ⟨g8,0,none⟩)) (.agg t)).run Tryz.prog w'=.ok () w''∧∃r8,(loadVar 47 ⟨g8,0,none⟩).run Tryz.prog w''=.ok r8 w''∧
       (∃(cs:List Value) (ga':Option Addr) (gn' gc':Nat),Ending.returned (.tuple #[r8,.slice ga gn gc,bG (some y)])=.returned (.tuple #[.agg cs.toArray,.slice ga' gn' gc',bG (iH r.C snaps drop grows)])∧cs.length=9∧(∀v∈cs,v.oneCell'=true)∧Chg [] w w''∧
     (iH r.C snaps drop grows=none→∃sa sc pa pc,cs=bP (bR r.C snaps drop grows) sa (bR r.C snaps drop grows).snaps.length sc pa (bR r.C snaps drop grows).aq.length pc∧gn'=(cr drop r.C.aq).length∧
       St w [] w'' [lC (bR r.C snaps drop grows) sa sc,kX (bR r.C snaps drop grows) pa pc,.row 91 3 (.slice ga' gn' gc') gn' ((cr drop r.C.aq).flatMap pkC)])):=fun {w' M g n s u v ga gn gc} y k hu hv hE=>by
   obtain ⟨w'',r'',k''⟩:=k.stA (i:=0) (v:=xD g n s u v) rfl (fT _) rfl rfl (DQ g n s hu hv)
   exact ⟨_,k.ldA (i:=1) (l:=xD g n s u v) rfl (kG _) (fT _) rfl,w'',r'',_,k''.bQ (i:=0) (l:=xD g n s u v) rfl (kG _) (fT _) rfl,_,ga,gn,gc,by rw [hE],rfl,DQ g n s hu hv,k''.chg,fun hn=>by rw [hE] at hn;cases hn⟩
 refine ⟨g8,w1,r1,_,(h.same k1.chg).top.ldP (i:=0) (o:=98) rfl (kG _) (fT _) (wU ok.kl _ _ _ _) rfl,g11,w2,r2,w3,r3,fun b w'=>b=sO r.C grows∧w'=w3,⟨_,k3.ldL (i:=1) (o:=0) rfl (jv _) rfl rfl,fun hg=>⟨by rw [sO,hg];rfl,rfl⟩,fun hg=>⟨fun ha=>⟨_,k3.ldL (i:=1) (o:=1) rfl (jv _) rfl rfl,by rw [sO,hg,ha];rfl,rfl⟩,fun ha=>⟨by rw [sO,hg,ha];rfl,rfl⟩⟩⟩,?_⟩
 rintro b w4 ⟨hb,rfl⟩
 refine ⟨fun hT=>ending 20 k3 rfl rfl (by rw [iH,←hb,if_pos hT]),fun hF=>?_⟩
 rw [hb] at hF
 have hgen:r.C.gen≠1099511627776:=fun e=>by rw [sO,e] at hF;simp at hF
 obtain ⟨w6,r6,k6⟩:=k3.stL (i:=1) (o:=0) (off:=0) (T:=3) (v:=.int .i64 (IntKind.wrap .i64 (r.C.gen+1))) rfl (N9 _) rfl (by show 0<9;decide) rfl
 have hwr:IntKind.wrap .i64 (r.C.gen+1)=r.C.gen+1:=wrap_i64 (by omega) (by omega)
 have k6:St w [] w6 [.arr g8 47 jK,.arr g11 47 (xD (r.C.gen+1) r.C.next r.C.set (.slice q.sa r.C.snaps.length q.sc) (.slice q.pa r.C.aq.length q.pc))]:=by rw [hwr] at k6;exact k6
 refine ⟨_,k3.ldL (i:=1) (o:=0) rfl (jv _) rfl rfl,w6,r6,(sA a1 _ c1 snaps w6 (hs.au k6.chg) hn1).mono ?_⟩
 rintro e w7 ⟨sa,sc,rfl,f7⟩
 have k7:=Sx.St.cq (N:=[]) (by rw [List.append_nil];exact k6) f7
 have k7:St w [] w7 [.arr g8 47 jK,.arr g11 47 (xD (r.C.gen+1) r.C.next r.C.set (.slice q.sa r.C.snaps.length q.sc) (.slice q.pa r.C.aq.length q.pc)),.row 89 36 (.slice sa snaps.length sc) snaps.length (snaps.flatMap eE)]:=k7
 obtain ⟨w8,r8,k8⟩:=k7.stL (i:=1) (o:=7) (off:=7) (T:=25) (v:=.slice sa snaps.length sc) rfl (Oy _) rfl (by show 7<9;decide) rfl
 obtain ⟨w9,r9,k9⟩:=k8.stL (i:=1) (o:=8) (off:=8) (T:=45) (v:=.slice none 0 0) rfl (Mo _) rfl (by show 8<9;decide) rfl
 let R (nx:Int) (ga:Option Addr) (gc:Nat) (G:List PkD) (ka:Option Addr) (kc:Nat) (Q:List PkD):List Res:=[.arr g8 47 jK,.arr g11 47 (xD (r.C.gen+1) nx r.C.set (.slice sa snaps.length sc) (.slice ka Q.length kc)),.row 89 36 (.slice sa snaps.length sc) snaps.length (snaps.flatMap eE),
   .row 91 3 (.slice ka Q.length kc) Q.length (Q.flatMap pkC),.row 91 3 (.slice ga G.length gc) G.length (G.flatMap pkC)]
 have k9:St w [] w9 (R r.C.next none 0 [] none 0 []):=(k9.bZ 91 3).bZ 91 3
 have hpk:∀ {w'},Chg [] w w'→RdE pkC 3 w' q.pa r.C.aq.length q.pc r.C.aq:=fun hc=>⟨(h.same hc).top.rd (i:=2) rfl,fun _ _=>rfl⟩
 refine ⟨_,_,_,rfl,w8,r8,w9,r9,_,_,_,(h.same k9.chg).top.ldL (i:=0) (o:=106) rfl (Hw _) rfl (rO ok.kl q.sa q.sc q.pa q.pc 8),fun a n c x w'=>∃i:Nat,x=(i:Int)∧i≤r.C.aq.length∧n=(cr drop (r.C.aq.take i)).length∧∃ka kc,St w [] w' (R r.C.next a c (cr drop (r.C.aq.take i)) ka kc (bt drop (r.C.aq.take i))),fun _ _ _ x _=>r.C.aq.length-x.toNat,⟨0,rfl,by omega,by simp [cr],none,0,by simpa [cr,bt] using k9⟩,?_⟩
 rintro a n c x w10 ⟨i,rfl,hi,rfl,ka,kc,k10⟩
 have hgl:(cr drop (r.C.aq.take i)).length≤i:=Nat.le_trans (uX _ _) (by simp;omega)
 have hkl:(bt drop (r.C.aq.take i)).length≤i:=Nat.le_trans (uV _ _) (by simp;omega)
 refine ⟨fun hlt=>?_,fun hge=>?_⟩
 · have hi':i<r.C.aq.length:=by simp at hlt;omega
   obtain ⟨p,hp⟩:∃p,r.C.aq[i]?=some p:=⟨_,List.getElem?_eq_getElem hi'⟩
   obtain ⟨b,o,hab,hld⟩:=(hpk k10.chg).ld (P:=Tryz.prog) (by decide) pqA pqS hp
   have eG:cr drop (r.C.aq.take (i+1))=if drop.contains p.num then cr drop (r.C.aq.take i)++ [p] else cr drop (r.C.aq.take i):=by rw [List.take_add_one,hp];exact E8 _ _ _
   have eK:bt drop (r.C.aq.take (i+1))=if drop.contains p.num then bt drop (r.C.aq.take i) else bt drop (r.C.aq.take i)++ [p]:=by rw [List.take_add_one,hp];exact EW _ _ _
   obtain ⟨g14,w11,r11,k11⟩:=k10.aD Mg
   obtain ⟨w12,r12,k12⟩:=k11.stA (i:=5) (v:=pkC p) rfl (pqS _) rfl rfl (pL p)
   have k12:St w [] w12 (R r.C.next a c (cr drop (r.C.aq.take i)) ka kc (bt drop (r.C.aq.take i))++ [.arr g14 91 (pkC p)]):=k12
   refine ⟨b,o,hab,by omega,by omega,_,hld w10 (hpk k10.chg),g14,w11,r11,w12,r12,_,k12.ldL (i:=5) (o:=0) rfl (jv _) rfl rfl,(kr a2 n2 c2 drop p.num w12 (hrz.au k12.chg) (by omega)).mono ?_⟩
   rintro e w13 ⟨rfl,rfl⟩
   refine ⟨_,rfl,fun a' n' c' w'=>n'=(cr drop (r.C.aq.take (i+1))).length∧∃ka kc,St w [] w' (R r.C.next a' c' (cr drop (r.C.aq.take (i+1))) ka kc (bt drop (r.C.aq.take (i+1)))),⟨fun hin=>?_,fun hout=>?_⟩,fun a' n' c' w' ⟨hn',ka',kc',k'⟩=>⟨⟨i+1,ay hi' (by omega),by omega,hn',ka',kc',k'⟩,aB hi' (by omega)⟩⟩
   · rw [eG,eK,hin,if_pos rfl,if_pos rfl]
     obtain ⟨g1,w14,va,vc,w15,r14,r15,k15,_⟩:=k12.sH (i:=4) (ty:=45) pqT rfl (pkC p) rfl (by decide) (pL p) (by omega) (by rw [show maxLen=9223372036854775807 from rfl];omega)
     refine ⟨_,k12.ldA (i:=5) (l:=pkC p) rfl (pqA _) (pqS _) rfl,_,_,_,w14,r14,_,_,_,w15,r15,by simp,ka,kc,?_⟩
     have e1:(cr drop (r.C.aq.take i)++ [p]).flatMap pkC=(cr drop (r.C.aq.take i)).flatMap pkC++pkC p:=by rw [List.flatMap_append,List.flatMap_cons,List.flatMap_nil,List.append_nil]
     have hl1:(cr drop (r.C.aq.take i)++ [p]).length=(cr drop (r.C.aq.take i)).length+1:=by simp
     have k15:St w [] w15 (R r.C.next va vc (cr drop (r.C.aq.take i)++ [p]) ka kc (bt drop (r.C.aq.take i))++ [.arr g14 91 (pkC p)]):=by
       simp only [R,e1,hl1];exact k15
     exact k15.sub (List.sublist_append_left _ _)
   · rw [eG,eK,hout,if_neg Bool.false_ne_true,if_neg Bool.false_ne_true]
     obtain ⟨g1,w14,va,vc,w15,r14,r15,k15,k14⟩:=k12.sH (i:=3) (ty:=45) pqT rfl (pkC p) rfl (by decide) (pL p) (by omega) (by rw [show maxLen=9223372036854775807 from rfl];omega)
     obtain ⟨w16,r16,k16⟩:=k15.stL (i:=1) (o:=8) (off:=8) (T:=45) (v:=.slice va ((bt drop (r.C.aq.take i)).length+1) vc) rfl (Mo _) rfl (by show 8<9;decide) rfl
     refine ⟨_,_,_,k12.ldL (i:=1) (o:=8) rfl (Hw _) rfl rfl,_,k12.ldA (i:=5) (l:=pkC p) rfl (pqA _) (pqS _) rfl,_,_,_,w14,r14,_,_,_,w15,r15,w16,r16,rfl,va,vc,?_⟩
     have e1:(bt drop (r.C.aq.take i)++ [p]).flatMap pkC=(bt drop (r.C.aq.take i)).flatMap pkC++pkC p:=by rw [List.flatMap_append,List.flatMap_cons,List.flatMap_nil,List.append_nil]
     have hl1:(bt drop (r.C.aq.take i)++ [p]).length=(bt drop (r.C.aq.take i)).length+1:=by simp
     have k16:St w [] w16 (R r.C.next a c (cr drop (r.C.aq.take i)) va vc (bt drop (r.C.aq.take i)++ [p])++ [.arr g14 91 (pkC p)]):=by
       simp only [R,e1,hl1];exact k16
     exact k16.sub (List.sublist_append_left _ _)
 · have hi':i=r.C.aq.length:=by simp at hge;omega
   subst hi'
   rw [List.take_length] at k10 hgl hkl ⊢
   obtain ⟨D,hD⟩:∃D,bR r.C snaps drop grows=D:=⟨_,rfl⟩
   refine ⟨fun w'=>∃ka kc,St w [] w' (R D.next a c (cr drop r.C.aq) ka kc D.aq),⟨fun hgr=>?_,fun hgr=>?_⟩,?_⟩
   · have hnx:r.C.next≠1099511627776:=fun e=>by rw [sO,e,hgr] at hF;simp at hF
     have hwn:IntKind.wrap .i64 (r.C.next+1)=r.C.next+1:=wrap_i64 (by omega) (by omega)
     obtain ⟨g1,w20,va,vc,w21,r20,r21,k21,_⟩:=k10.sH (i:=3) (ty:=45) pqT rfl (pkC ⟨r.C.next,0,0⟩) rfl (by decide) (pL _) (by omega) (by rw [show maxLen=9223372036854775807 from rfl];omega)
     obtain ⟨w22,r22,k22⟩:=k21.stL (i:=1) (o:=8) (off:=8) (T:=45) (v:=.slice va ((bt drop r.C.aq).length+1) vc) rfl (Mo _) rfl (by show 8<9;decide) rfl
     obtain ⟨w23,r23,k23⟩:=k22.stL (i:=1) (o:=1) (off:=1) (T:=3) (v:=.int .i64 (IntKind.wrap .i64 (r.C.next+1))) rfl (N9 _) rfl (by show 1<9;decide) rfl
     refine ⟨_,_,_,k10.ldL (i:=1) (o:=8) rfl (Hw _) rfl rfl,_,k10.ldL (i:=1) (o:=1) rfl (jv _) rfl rfl,_,FG _ _,_,_,_,w20,r20,_,_,_,w21,r21,w22,r22,_,k22.ldL (i:=1) (o:=1) rfl (jv _) rfl rfl,w23,r23,va,vc,?_⟩
     have e1:D.next=r.C.next+1:=by rw [←hD,bR,hgr];rfl
     have e2:D.aq=bt drop r.C.aq++ [⟨r.C.next,0,0⟩]:=by rw [←hD,bR,hgr];rfl
     have e3:(bt drop r.C.aq++ [(⟨r.C.next,0,0⟩:PkD)]).flatMap pkC=(bt drop r.C.aq).flatMap pkC++pkC ⟨r.C.next,0,0⟩:=by rw [List.flatMap_append,List.flatMap_cons,List.flatMap_nil,List.append_nil]
     have hl1:(bt drop r.C.aq++ [(⟨r.C.next,0,0⟩:PkD)]).length=(bt drop r.C.aq).length+1:=by simp
     rw [hwn] at k23
     rw [e1,e2]
     simp only [R,e3,hl1]
     exact k23
   · refine ⟨ka,kc,?_⟩
     have e1:D.next=r.C.next:=by rw [←hD,bR,hgr];rfl
     have e2:D.aq=bt drop r.C.aq:=by rw [←hD,bR,hgr];simp
     rw [e1,e2];exact k10
   · rintro w24 ⟨ka,kc,k24⟩
     have dg:D.gen=r.C.gen+1:=by rw [←hD];rfl
     have ds:D.set=r.C.set:=by rw [←hD];rfl
     have dn:D.snaps=snaps:=by rw [←hD];rfl
     refine ⟨_,_,_,k24.ldL (i:=1) (o:=8) rfl (Hw _) rfl rfl,fun hgt=>?_,fun hle=>?_⟩
     · exact ending 19 k24 rfl rfl (by rw [iH,if_neg (by rw [hF];simp),hD,if_pos (by simp at hgt;omega)])
     · have hE:iH r.C snaps drop grows=if aI D then none else some 28:=by rw [iH,if_neg (by rw [hF];simp),hD,if_neg (by simp at hle;omega)]
       rw [hE,hD]
       have e9:xD (r.C.gen+1) D.next r.C.set (.slice sa snaps.length sc) (.slice ka D.aq.length kc)=bP D sa D.snaps.length sc ka D.aq.length kc:=by rw [←dg,←ds,←dn];rfl
       have hR:AQ w24.drew D sa D.snaps.length sc ka D.aq.length kc:=⟨by rw [ds];exact ok.poly,by rw [dn];exact ⟨k24.drew.rd (i:=2) rfl,fun x _=>fk x⟩,⟨k24.drew.rd (i:=3) rfl,fun _ _=>rfl⟩,by rw [dn];exact hsl⟩
       refine ⟨fun w'=>∃M':List Res,St w [] w' (.arr g8 47 jK:: .arr g11 47 (bP D sa D.snaps.length sc ka D.aq.length kc)::M'),⟨_,by rw [←e9];exact k24.drew⟩,_,fun w' ⟨_,k⟩=>k.ldA (i:=1) (l:=bP D sa D.snaps.length sc ka D.aq.length kc) rfl (kG _) (fT _) rfl,_,fun w' ⟨_,k⟩=>k.ldA (i:=1) (l:=bP D sa D.snaps.length sc ka D.aq.length kc) rfl (kG _) (fT _) rfl,(qz D sa _ sc ka _ kc _ hR).mono ?_⟩
       rintro e w26 ⟨rfl,c26⟩
       have k26:St w [] w26 (R D.next a c (cr drop r.C.aq) ka kc D.aq):=k24.drew.same c26
       obtain ⟨w27,r27,k27⟩:=k26.stA (i:=0) (v:=bP D sa D.snaps.length sc ka D.aq.length kc) rfl (fT _) rfl rfl (mq _ _ _ _ _ _ _)
       refine ⟨_,rfl,_,fun _ h=>h,⟨_,by rw [←e9];exact k26⟩,w27,r27,_,k27.bQ (i:=0) (l:=bP D sa D.snaps.length sc ka D.aq.length kc) rfl (kG _) (fT _) rfl,_,a,_,c,rfl,rfl,mq _ _ _ _ _ _ _,k27.chg,fun _=>⟨sa,sc,ka,kc,rfl,rfl,?_⟩⟩
       have k28:=k27.sub (List.Sublist.cons _ (List.Sublist.cons _ (List.Sublist.refl _)))
       unfold lC kX
       rw [dn]
       exact k28
end

end Go.Proofs.YtpmhjnhgpplmnaaGreatDoor
end

section
namespace Go.Proofs.YtpmhjnhgpplmnaaGreatDoor
open Go Sx
set_option maxRecDepth 8000

def bC (m:ah) (n:Nm):List (List UInt8)→ah×Option Int
 | []=>(m,none)
 | p::ps=>match (aP m n [p]).2 with
   | some e=>((aP m n [p]).1,some e)
   | none=>bC (aP m n [p]).1 n ps
def fS (m:ah) (n:Nm) (ps:List (List UInt8)):ah×Option Int:=match (aN m n).2 with
 | some e=>((aN m n).1,some e)
 | none=>match (bC (aN m n).1 n ps).2 with
   | some e=>((bC (aN m n).1 n ps).1,some e)
   | none=>cW (bC (aN m n).1 n ps).1 n

theorem nT (m:ah):(bu m).1.steps≤m.steps+1∧(bu m).1.chs=m.chs:=by
 unfold bu
 split
 · exact ⟨Nat.le_succ _,rfl⟩
 · split<;>exact ⟨Nat.le_refl _,rfl⟩
theorem Bc (m:ah) (n:Nm) (ps:List (List UInt8)):(aP m n ps).1.steps≤m.steps+1:=by
 unfold aP
 split
 · exact Nat.le_succ _
 · split
   · unfold aT
     have:=(nT m).1
     split
     · exact this
     · exact this
   · exact Nat.le_succ _
theorem AJ (m:ah) (n:Nm):(aN m n).1.steps≤m.steps+1:=by
 unfold aN
 split
 · exact Nat.le_succ _
 · split
   · exact Nat.le_succ _
   · split
     · exact Nat.le_succ _
     · unfold aT
       have:=(nT m).1
       split
       · exact this
       · exact this

theorem pkA (w:World):(isAgg 91).run Tryz.prog w=.ok true w:=Tryz.isAgg91 w
theorem pkS (w:World):(sizeOf 91).run Tryz.prog w=.ok 3 w:=Tryz.sizeOf91 w
def pk3 (x y z:Int):List Value:=[.int .i64 x,.int .i64 y,.int .i64 z]
theorem Gt (x y z:Int):∀v∈pk3 x y z,v.oneCell'=true:=fun v hv=>by
 simp only [pk3,List.mem_cons,List.not_mem_nil,or_false] at hv
 rcases hv with rfl | rfl | rfl<;>rfl
theorem pkZ (w:World):(zeroValue 91).run Tryz.prog w=.ok (.agg (pk3 0 0 0).toArray) w:=Tryz.zeroValue91 w
theorem Ct:Tryz.prog.built 91=fun parts=>Instr.fill (fun i=>(#[(0,1),(1,1),(2,1)]:Array (Nat×Nat))[i]?) (pk3 0 0 0).toArray parts:=by kernel_rfl
theorem pG (w:World):(Instr.build 91 #[]).run Tryz.prog w=.ok (.agg (pk3 0 0 0).toArray) w:=by
 apply run_build
 rw [Ct]
 rfl
theorem J7 (x y z:Int) (w:World):(Instr.build 91 #[(0,.int .i64 x),(1,.int .i64 y),(2,.int .i64 z)]).run Tryz.prog w=.ok (.agg (pk3 x y z).toArray) w:=by
 apply run_build
 rw [Ct]
 show Instr.fill _ _ [(0,_),(1,_),(2,_)]=_
 rw [aC (off:=0) (sz:=1) rfl rfl (by simp [Value.cells,pk3]),aC (off:=1) (sz:=1) rfl rfl (by simp [Value.cells,pk3]),aC (off:=2) (sz:=1) rfl rfl (by simp [Value.cells,pk3])]
 rfl

section
variable {w0 w w':World} {X:List Nat} {N N' T T':List Res} {gd:Nat} {ps:List Nat} {m:ah}

theorem Dd {g9:Nat} {l:List Value} (h:aj w0 X w gd ps m (N++ [.arr g9 91 l])) (hl:l.length=3) (x y z:Int):
   ∃w',(Instr.storeAt 91 (.pointer (some ⟨g9,0,none⟩)) (.agg (pk3 x y z).toArray)).run Tryz.prog w=.ok () w'∧(loadVar 91 ⟨g9,0,none⟩).run Tryz.prog w'=.ok (.agg (pk3 x y z).toArray) w'∧aj w0 X w' gd ps m N:=by
 have h1:=(h.rest.sub (List.sublist_append_right N _)).self
 obtain ⟨w2,r2,h2⟩:=h1.stA (i:=0) (v:=pk3 x y z) rfl (pkS _) hl rfl (Gt _ _ _)
 have h2:St w (ij [.arr g9 91 l]) w2 [.arr g9 91 (pk3 x y z)]:=h2
 exact ⟨w2,r2,h2.bQ (i:=0) rfl (pkA _) (pkS _) rfl,(h.qw h2).tQ (List.sublist_append_left _ _)⟩

end

def LF:Option Int→List bw→List bw
 | none,rs=>rs
 | some _,_=>[]
def H6:Option Int→Int→Nat→Nat→List Value
 | none,num,s,k=>pk3 num (s:Int) (k:Int)
 | some _,_,_,_=>pk3 0 0 0
abbrev oM (ra:Option Addr) (rc:Nat) (rs:List bw):Res:=.row 100 35 (.slice ra rs.length rc) rs.length (rs.flatMap aF)
theorem J9 (e:Option Int) (num:Int) (s k:Nat):(H6 e num s k).length=3:=by cases e<;>rfl
theorem Jm (e:Option Int) (num:Int) (s k:Nat):∀v∈H6 e num s k,v.oneCell'=true:=by cases e<;>exact Gt _ _ _

section
variable {w0 w w':World} {X:List Nat} {N N' T T':List Res} {gd gr:Nat} {ps:List Nat} {m:ah}

set_option maxHeartbeats 2000000 in
theorem Bw (K:List UInt8) (hk:K.length=96) (num:Int) (a:Option Addr) (n c:Nat) (l:List ItD) (h:aj w0 [] w gd ps m N) (hK:cI w) (hT:iE w) (hg:cQ num=true) (hr:ItR w a n c l) (hs:bY (l.map ItD.t)) (hb:m.steps≤1000000) (hc:m.chs.length<1000000000):
   Calls Tryz.prog 220 #[.pointer (some ⟨gd,0,none⟩),.agg (bv K).toArray,.int .i64 num,.slice a n c] w fun e w'=>∃ra rc,e=.returned (.tuple #[.slice ra (LF (fS m (aA num) (dH K num (l.map ItD.t))).2 (aQ num 16 (l.map ItD.t))).length rc,.agg (H6 (fS m (aA num) (dH K num (l.map ItD.t))).2 num (bf K num (l.map ItD.t)).length l.length).toArray,bG (fS m (aA num) (dH K num (l.map ItD.t))).2])∧∃ps',aj w0 [] w' gd ps' (fS m (aA num) (dH K num (l.map ItD.t))).1 (N++ [oM ra rc (LF (fS m (aA num) (dH K num (l.map ItD.t))).2 (aQ num 16 (l.map ItD.t)))]):=by
 obtain ⟨mI,hI⟩:=eI
 have hnl:l.length≤4096:=by have:=hs.num;simpa using this
 apply sE
 obtain ⟨g5,w1,r1,k1⟩:=(St.start w).cz (P:=Tryz.prog) 41 (bv K)
 obtain ⟨g9,w2,r2,k2⟩:=k1.aD pkZ
 have k2:St w [] w2 [.arr g5 41 (bv K),.arr g9 91 (pk3 0 0 0)]:=k2
 refine ⟨g5,w1,r1,g9,w2,r2,_,k2.ldA (i:=0) (l:=bv K) rfl (tJ _) (qg _) (by simp [hk]),(DF K hk num a n c l w2 (hK.au k2.chg) hg (hr.au k2.chg) hs).mono ?_⟩
 rintro e w3 ⟨g,rfl,f,hf1,hf2,k3⟩
 have h3:=(h.cR (k2.sub (N:=[.arr g9 91 (pk3 0 0 0)]) (List.sublist_cons_self _ _))).cR k3
 obtain ⟨F1,hF1⟩:∃F1,lD g num f++(f.ps.map PcD.row++ [])=F1:=⟨_,rfl⟩
 rw [hF1] at h3
 have fin:∀ {w':World} {ps':List Nat} {m':ah},aj w0 [] w' gd ps' m' ((N++ [.arr g9 91 (pk3 0 0 0)])++F1)→St w0 [] w' F1:=fun h=>h.rest.sub (List.sublist_append_right _ _)
 have out:∀ {w':World} {ps':List Nat} {m':ah},aj w0 [] w' gd ps' m' ((N++ [.arr g9 91 (pk3 0 0 0)])++F1)→aj w0 [] w' gd ps' m' (N++ [.arr g9 91 (pk3 0 0 0)]):=fun h=>h.tQ (List.sublist_append_left _ _)
 refine ⟨_,_,rfl,_,az hI none _ _,fun h=>(by cases h),fun _=>(jj num w3 (hT.au ((k2.chg).trans k3.chg)) hg).mono ?_⟩
 rintro e w5 ⟨rfl,c5⟩
 have h5:=h3.same c5
 refine ⟨_,rfl,(oq (aA num) h5 (by omega) hc).mono ?_⟩
 rintro e w6 ⟨rfl,ps1,h6⟩
 obtain ⟨xs,hxs⟩:∃xs,dH K num (l.map ItD.t)=xs:=⟨_,rfl⟩
 have hcc:=AJ m (aA num)
 obtain ⟨m1,hm1⟩:∃m1,(aN m (aA num)).1=m1:=⟨_,rfl⟩
 rw [hm1] at h6 hcc
 rw [hxs]
 have hxl:xs.length=l.length+2:=by rw [←hxs,wR,List.length_map]
 cases hce:(aN m (aA num)).2 with
 | some e=>
   have hsv:fS m (aA num) xs=(m1,some e):=by unfold fS;rw [hce];simp only [hm1]
   obtain ⟨w7,r7,l7,h7⟩:=Dd (out h6) rfl 0 0 0
   refine ⟨_,rfl,_,az hI (some e) _ _,fun _=>⟨_,pG w6,w7,r7,_,l7,none,0,?_,ps1,?_⟩,fun h=>by cases h⟩
   · rw [hsv];rfl
   · rw [hsv];exact h7.cR ((St.start _).bZ 100 35)
 | none=>
   have hsv:fS m (aA num) xs=(match (bC m1 (aA num) xs).2 with
     | some e=>((bC m1 (aA num) xs).1,some e)
     | none=>cW (bC m1 (aA num) xs).1 (aA num)):=by unfold fS;rw [hce];simp only [hm1]<;>rfl
   have F0:∀ {w':World} {ps':List Nat} {m':ah},aj w0 [] w' gd ps' m' ((N++ [.arr g9 91 (pk3 0 0 0)])++F1)→St w0 [] w' ([.arr g 388 (mj num f),.row 26 1 (.slice f.la f.ps.length f.lc) f.ps.length (f.ps.map PcD.v),.row 100 35 (.slice f.ra f.rs.length f.rc) f.rs.length (f.rs.flatMap aF)]++(f.ps.map PcD.row++ [])):=fun h=>by rw [←hF1] at h;exact h.rest.sub (List.sublist_append_right _ _)
   have hpl:f.ps.length=xs.length:=by have:=congrArg List.length hf1;rw [List.length_map,hxs] at this;exact this
   refine ⟨_,rfl,_,az hI none _ _,fun h=>(by cases h),fun _=>⟨g,0,rfl,_,_,_,(F0 h6).ldL (i:=0) (o:=0) rfl (NH _) rfl rfl,fun x w'=>∃(j:Nat) (m':ah),x=(j:Int)∧j≤f.ps.length∧bC m1 (aA num) xs=bC m' (aA num) (xs.drop j)∧m'.steps≤m1.steps+j∧aj w0 [] w' gd ps1 m' ((N++ [.arr g9 91 (pk3 0 0 0)])++F1),fun x _=>f.ps.length-x.toNat,⟨0,m1,rfl,by omega,by simp,by omega,h6⟩,?_⟩⟩
   rintro x w8 ⟨j,m',rfl,hj,hap,hst,h8⟩
   refine ⟨fun hlt=>?_,fun hge=>?_⟩
   · have hj':j<f.ps.length:=by simp at hlt;omega
     have hp:f.ps[j]?=some f.ps[j]:=List.getElem?_eq_getElem hj'
     obtain ⟨p,hpp⟩:∃p,f.ps[j]=p:=⟨_,rfl⟩
     rw [hpp] at hp
     have hxj:xs.drop j=p.l::xs.drop (j+1):=by
       have:xs[j]?=some p.l:=by rw [←hxs,←hf1,List.getElem?_map,hp];rfl
       obtain ⟨hj2,he⟩:=List.getElem?_eq_some_iff.1 this
       rw [List.drop_eq_getElem_cons hj2,he]
     have hrow:Rd w8 f.la f.ps.length f.lc 1 (f.ps.map PcD.v):=(F0 h8).rd (i:=1) rfl
     obtain ⟨b,o,hab,hcell⟩:=hrow.cells.at_ (i:=j) (v:=p.v) (by rw [List.getElem?_map,hp];rfl)
     obtain ⟨g11,w9,r9,k9⟩:=(St.start w8).lit bbT [p.v] (by simp [PcD.v,Value.oneCell']) (by simp)
     have h9:=h8.cR k9
     refine ⟨b,o,hab,by omega,by omega,_,_,_,by rw [Int.toNat_natCast,Nat.mul_one];exact ld1 (MT _) hcell,_,_,_,w9,r9,(o8 (aA num) _ 1 1 [p.v] [p.l] h9 (fun {w2 ps2 m2} hD=>?_) (by omega) (by decide)).mono ?_⟩
     · have hF:=F0 (hD.tQ (List.sublist_append_left _ _))
       have hrd:RdB w2 p.a p.l.length p.c p.l:=hF.rd (i:=3+j) (by
         rw [List.getElem?_append_right (by simp),List.getElem?_append_left (by simp;omega)]
         simp only [List.length_cons,List.length_nil]
         rw [List.getElem?_map,show 3+j- (0+1+1+1)=j by omega,hp];rfl)
       exact ⟨(hD.rest.sub (List.sublist_append_right _ _)).rd (i:=0) rfl,cH.cons hrd (cH.nil _)⟩
     rintro e w10 ⟨rfl,h10⟩
     have h10:=h10.tQ (N':=(N++ [.arr g9 91 (pk3 0 0 0)])++F1) (List.sublist_append_left _ _)
     have hac:=Bc m' (aA num) [p.l]
     obtain ⟨m2,hm2⟩:∃m2,(aP m' (aA num) [p.l]).1=m2:=⟨_,rfl⟩
     rw [hm2] at h10 hac
     rw [hxj] at hap
     cases hae:(aP m' (aA num) [p.l]).2 with
     | some e=>
       have hap2:bC m1 (aA num) xs=(m2,some e):=by rw [hap,bC,hae];simp only [hm2]
       have hsv2:fS m (aA num) xs=(m2,some e):=by rw [hsv,hap2]
       obtain ⟨w11,r11,l11,h11⟩:=Dd (out h10) rfl 0 0 0
       refine ⟨_,rfl,_,az hI (some e) _ _,fun _=>⟨_,pG w10,w11,r11,_,l11,none,0,?_,ps1,?_⟩,fun h=>by cases h⟩
       · rw [hsv2];rfl
       · rw [hsv2];exact h11.cR ((St.start _).bZ 100 35)
     | none=>
       have hap2:bC m1 (aA num) xs=bC m2 (aA num) (xs.drop (j+1)):=by rw [hap,bC,hae];simp only [hm2]
       exact ⟨_,rfl,_,az hI none _ _,fun h=>(by cases h),fun _=>⟨⟨j+1,m2,ay hj' (by omega),by omega,hap2,by omega,h10⟩,aB hj' (by omega)⟩⟩
   · have hj':j=f.ps.length:=by simp at hge;omega
     rw [hj',hpl,List.drop_length] at hap
     have hap:bC m1 (aA num) xs=(m',none):=hap
     have hsv2:fS m (aA num) xs=cW m' (aA num):=by rw [hsv,hap]
     refine (uj (aA num) h8 (by omega)).mono ?_
     rintro e w12 ⟨rfl,h12⟩
     rw [←hsv2] at h12 ⊢
     cases hse:(fS m (aA num) xs).2 with
     | some e=>
       obtain ⟨w13,r13,l13,h13⟩:=Dd (out h12) rfl 0 0 0
       exact ⟨_,rfl,_,az hI (some e) _ _,fun _=>⟨_,pG w12,w13,r13,_,l13,none,0,rfl,ps1,h13.cR ((St.start _).bZ 100 35)⟩,fun h=>by cases h⟩
     | none=>
       have h12d:=h12.same (Chg.drew [] w12)
       have hsub: [oM f.ra f.rc f.rs].Sublist F1:=List.singleton_sublist.2 (by rw [←hF1];exact List.mem_append_left _ (show _∈lD g num f by unfold lD;simp [oM]))
       have h12e:=(h12d.tQ (List.Sublist.append_left hsub _)).vB (N':=(N++ [oM f.ra f.rc f.rs])++ [.arr g9 91 (pk3 0 0 0)]) (by
         rw [List.append_assoc,List.append_assoc]
         exact List.Perm.append_left _ (List.perm_append_comm))
       obtain ⟨w14,r14,l14,h14⟩:=Dd h12e rfl num (((f.ps.map PcD.l).flatten.length:Nat):Int) ((n:Nat):Int)
       let S:World→Prop:=fun w'=>St w0 [] w' ([.arr g 388 (mj num f),.row 26 1 (.slice f.la f.ps.length f.lc) f.ps.length (f.ps.map PcD.v),.row 100 35 (.slice f.ra f.rs.length f.rc) f.rs.length (f.rs.flatMap aF)]++(f.ps.map PcD.row++ []))
       have hbl:(f.ps.map PcD.l).flatten.length=(bf K num (l.map ItD.t)).length:=by rw [hf1];rfl
       have hln:=hr.rd.num (by decide)
       refine ⟨_,rfl,_,az hI none _ _,fun h=>(by cases h),fun _=>⟨S,F0 h12d,g,0,rfl,g,0,rfl,_,_,_,fun w' hw=>Sx.St.ldL hw (i:=0) (o:=3) rfl (L9 _) rfl rfl,_,fun w' hw=>Sx.St.ldL hw (i:=0) (o:=1) rfl (inA _) rfl rfl,_,fun w' _=>J7 _ _ _ w',w14,r14,_,l14,f.ra,f.rc,?_,ps1,?_⟩⟩
       · rw [hbl,←hln,←hf2];rfl
       · rw [←hf2];exact h14


end

def vU (m:ah) (n:Nm) (ps:List (List UInt8)):ah×Option Int:=match (bC m n ps).2 with
 | some e=>((bC m n ps).1,some e)
 | none=>cW (bC m n ps).1 n
theorem G3 (m:ah) (n:Nm) (ps:List (List UInt8)):fS m n ps=match (aN m n).2 with
 | some e=>((aN m n).1,some e)
 | none=>vU (aN m n).1 n ps:=rfl
theorem tail_cons (m:ah) (n:Nm) (p:List UInt8) (ps:List (List UInt8)):vU m n (p::ps)=match (aP m n [p]).2 with
 | some e=>((aP m n [p]).1,some e)
 | none=>vU (aP m n [p]).1 n ps:=by
 unfold vU
 rw [bC]
 cases h:(aP m n [p]).2<;>simp only [h]
theorem tail_nil (m:ah) (n:Nm):vU m n []=cW m n:=rfl
theorem nj (m:ah) (f:ah→ah) (a b:Nat) (hf:∀m,(f m).steps=m.steps∧(f m).chs.length≤m.chs.length+a∧(f m).files.length≤m.files.length+b):
   (aT m f).1.steps≤m.steps+1∧(aT m f).1.chs.length≤m.chs.length+a∧(aT m f).1.files.length≤m.files.length+b:=by
 obtain ⟨e1,_,e3,_⟩:=iL m
 have hc:=(nT m).1
 unfold aT
 split
 · exact ⟨hc,by show (bu m).1.chs.length≤_;rw [e3];omega,by show (bu m).1.files.length≤_;rw [e1];omega⟩
 · obtain ⟨h1,h2,h3⟩:=hf (bu m).1
   rw [e3] at h2
   rw [e1] at h3
   exact ⟨by show (f (bu m).1).steps≤_;rw [h1];exact hc,h2,h3⟩
theorem BZ (m:ah) (n:Nm):(aN m n).1.steps≤m.steps+1∧(aN m n).1.chs.length≤m.chs.length+1∧(aN m n).1.files.length≤m.files.length+1:=by
 unfold aN
 split
 · exact ⟨Nat.le_succ _,Nat.le_succ _,Nat.le_succ _⟩
 · split
   · exact ⟨Nat.le_succ _,Nat.le_succ _,Nat.le_succ _⟩
   · split
     · exact ⟨Nat.le_succ _,Nat.le_succ _,Nat.le_succ _⟩
     · exact nj m _ 1 1 fun m=>by simp [gZ,iO]
theorem Bn (m:ah) (n:Nm) (ps:List (List UInt8)):(aP m n ps).1.steps≤m.steps+1∧(aP m n ps).1.chs.length≤m.chs.length∧(aP m n ps).1.files.length≤m.files.length:=by
 unfold aP
 split
 · exact ⟨Nat.le_succ _,Nat.le_refl _,Nat.le_refl _⟩
 · split
   · exact nj m _ 0 0 fun m=>by simp [bK,gw]
   · exact ⟨Nat.le_succ _,Nat.le_refl _,Nat.le_refl _⟩
theorem Fc (m:ah) (n:Nm):(cW m n).1.steps≤m.steps+1∧(cW m n).1.chs.length≤m.chs.length∧(cW m n).1.files.length≤m.files.length:=by
 unfold cW
 split
 · exact ⟨Nat.le_succ _,Nat.le_refl _,Nat.le_refl _⟩
 · exact nj m _ 0 0 fun m=>by simp [jW,gw]
theorem yw:∀(ps:List (List UInt8)) (m:ah) (n:Nm),(vU m n ps).1.steps≤m.steps+ps.length+1∧(vU m n ps).1.chs.length≤m.chs.length∧(vU m n ps).1.files.length≤m.files.length
 | [],m,n=>by rw [tail_nil];have:=Fc m n;simpa using this
 | p::ps,m,n=>by
   have h1:=Bn m n [p]
   rw [tail_cons]
   split
   · exact ⟨by simp;omega,h1.2.1,h1.2.2⟩
   · have h2:=yw ps (aP m n [p]).1 n
     exact ⟨by simp;omega,by omega,by omega⟩
theorem Ew (m:ah) (n:Nm) (ps:List (List UInt8)):(fS m n ps).1.steps≤m.steps+ps.length+2∧(fS m n ps).1.chs.length≤m.chs.length+1∧(fS m n ps).1.files.length≤m.files.length+1:=by
 have h1:=BZ m n
 rw [G3]
 split
 · exact ⟨by show (aN m n).1.steps≤_;omega,h1.2.1,h1.2.2⟩
 · have h2:=yw ps (aN m n).1 n
   exact ⟨by omega,by omega,by omega⟩

def svA (K:List UInt8) (num:Int) (xs:List Itm) (m:ah):ah×Option Int:=if cQ num then fS m (aA num) (dH K num xs) else (m,some 28)
theorem z7 (K:List UInt8) (num:Int) (xs:List Itm) (m:ah):(svA K num xs m).1.steps≤m.steps+xs.length+4∧(svA K num xs m).1.chs.length≤m.chs.length+1∧(svA K num xs m).1.files.length≤m.files.length+1:=by
 unfold svA
 split
 · have:=Ew m (aA num) (dH K num xs)
   rw [wR] at this
   exact ⟨by omega,this.2.1,this.2.2⟩
 · exact ⟨by show m.steps≤_;omega,Nat.le_succ _,Nat.le_succ _⟩

section
variable {w0 w w':World} {X:List Nat} {N N' T T':List Res} {gd gr:Nat} {ps:List Nat} {m:ah}

theorem Bl (K:List UInt8) (hk:K.length=96) (num:Int) (a:Option Addr) (n c:Nat) (l:List ItD) (h:aj w0 [] w gd ps m N) (hK:cI w) (hT:iE w) (hr:ItR w a n c l) (hs:bY (l.map ItD.t)) (hb:m.steps≤1000000) (hc:m.chs.length<1000000000):
   Calls Tryz.prog 220 #[.pointer (some ⟨gd,0,none⟩),.agg (bv K).toArray,.int .i64 num,.slice a n c] w fun e w'=>∃ra rc,e=.returned (.tuple #[.slice ra (LF (svA K num (l.map ItD.t) m).2 (aQ num 16 (l.map ItD.t))).length rc,.agg (H6 (svA K num (l.map ItD.t) m).2 num (bf K num (l.map ItD.t)).length l.length).toArray,bG (svA K num (l.map ItD.t) m).2])∧∃ps',aj w0 [] w' gd ps' (svA K num (l.map ItD.t) m).1 (N++ [oM ra rc (LF (svA K num (l.map ItD.t) m).2 (aQ num 16 (l.map ItD.t)))]):=by
 cases hg:cQ num with
 | true=>
   have e:svA K num (l.map ItD.t) m=fS m (aA num) (dH K num (l.map ItD.t)):=by unfold svA;rw [if_pos hg]
   rw [e]
   exact Bw K hk num a n c l h hK hT hg hr hs hb hc
 | false=>
   have e:svA K num (l.map ItD.t) m=(m,some 28):=by unfold svA;rw [if_neg (by rw [hg];simp)]
   rw [e]
   obtain ⟨mI,hI⟩:=eI
   apply sE
   obtain ⟨g5,w1,r1,k1⟩:=(St.start w).cz (P:=Tryz.prog) 41 (bv K)
   obtain ⟨g9,w2,r2,k2⟩:=k1.aD pkZ
   have k2:St w [] w2 [.arr g5 41 (bv K),.arr g9 91 (pk3 0 0 0)]:=k2
   refine ⟨g5,w1,r1,g9,w2,r2,_,k2.ldA (i:=0) (l:=bv K) rfl (tJ _) (qg _) (by simp [hk]),(Je K num a n c w2 hg).mono ?_⟩
   rintro e w3 ⟨rfl,c3⟩
   have h3:=h.cR ((k2.sub (N:=[.arr g9 91 (pk3 0 0 0)]) (List.sublist_cons_self _ _)).same c3)
   obtain ⟨w7,r7,l7,h7⟩:=Dd h3 rfl 0 0 0
   exact ⟨_,_,rfl,_,az hI (some 28) _ _,fun _=>⟨_,pG w3,w7,r7,_,l7,none,0,rfl,ps,h7.cR ((St.start _).bZ 100 35)⟩,fun h=>by cases h⟩


end

end Go.Proofs.YtpmhjnhgpplmnaaGreatDoor
end

section
namespace Go.Proofs.YtpmhjnhgpplmnaaGreatDoor
open Go Sx
set_option maxRecDepth 8000

theorem Sx.St.Mw {P:Program} {w0 w:World} {X:List Nat} {M:List Res} (h:St w0 X w M) {i g n c j k:Nat} {e T:TypeId} {xs vs:List Value} (hi:M[i]?=some (.row e k (.slice (some ⟨g,0,none⟩) n c) n xs)) (hT:(sizeOf T).run P w=.ok k w) (hl:vs.length=k) (h1:∀v∈vs,v.oneCell'=true) (hj:j<n):
   ∃w',(Instr.storeAt T (.pointer (some ⟨g,j*k,none⟩)) (.agg vs.toArray)).run P w=.ok () w'∧St w0 X w' (M.set i (.row e k (.slice (some ⟨g,0,none⟩) n c) n (xs.take (j*k)++vs++xs.drop (j*k+k)))):=by
 have hown:w.ownsRow 0 e k (.slice (some ⟨g,0,none⟩) n c) n xs:=h.holds i _ hi
 obtain ⟨hlen,hrow⟩:=hown
 rcases hrow with ⟨hv0,_⟩ | ⟨g',cap,cur,hv0,hb,hg,hnc,hcm,hcs,ht⟩
 · simp at hv0
 · simp only [Value.slice.injEq,Option.some.injEq,Addr.mk.injEq,and_true,true_and] at hv0
   obtain ⟨rfl,rfl⟩:=hv0
   have hjk:j*k+k≤n*k:=by rw [←Nat.succ_mul];exact Nat.mul_le_mul_right k hj
   have hck:n*k≤c*k:=Nat.mul_le_mul_right k hnc
   have hst:=run_storeCells_at P g (j*k) e vs 0 cur w hg (by omega) h1
   simp only [Nat.add_zero,hl] at hst
   have hcl:cur.toList.length=c*k:=by rw [Array.length_toList,hcs]
   refine ⟨_,?_,h.upd hi (w':=w.setRow g (cur.toList.take (j*k)++vs++cur.toList.drop (j*k+k)).toArray) ⟨rfl,rfl,rfl,by simp,fun q _ hk=>setRow_other w g q _ (fun e=>hk (by simp [Res.fp,Value.ownBlock,e]))⟩ ?_ (by simp [Res.fp,Value.ownBlock])⟩
   · simp [Instr.storeAt,Instr.sureAddr,storeVar,hT,Value.cells,hl,hst]
   · have hxl:xs.length=n*k:=hlen
     refine ⟨?_,.inr ⟨g,c,_,rfl,hb,setRow_heap w g cur _ e _ hg,hnc,hcm,?_,?_⟩⟩
     · simp only [List.length_append,List.length_take,List.length_drop,hxl,hl];omega
     · simp only [List.size_toArray,List.length_append,List.length_take,List.length_drop,hcl,hl];omega
     · rw [List.toList_toArray]
       have hx:xs=cur.toList.take (n*k):=ht.symm
       apply List.ext_getElem?
       intro q
       rw [hx]
       by_cases hq:q<n*k
       · rw [List.getElem?_take,if_pos hq]
         by_cases h2:q<j*k
         · have la:(cur.toList.take (j*k)).length=j*k:=by simp only [List.length_take,hcl];omega
           have lb:((cur.toList.take (n*k)).take (j*k)).length=j*k:=by simp only [List.length_take,hcl];omega
           have e1:∀B:List Value,(cur.toList.take (j*k)++vs++B)[q]?=cur.toList[q]?:=fun B=>by rw [List.append_assoc,List.getElem?_append_left (by omega),List.getElem?_take,if_pos h2]
           have e2:∀B:List Value,((cur.toList.take (n*k)).take (j*k)++vs++B)[q]?=cur.toList[q]?:=fun B=>by rw [List.append_assoc,List.getElem?_append_left (by omega),List.getElem?_take,if_pos h2,List.getElem?_take,if_pos hq]
           rw [e1,e2]
         · by_cases h3:q<j*k+k
           · have la:(cur.toList.take (j*k)).length=j*k:=by simp only [List.length_take,hcl];omega
             have lb:((cur.toList.take (n*k)).take (j*k)).length=j*k:=by simp only [List.length_take,hcl];omega
             have e1:∀A B:List Value,A.length=j*k→(A++vs++B)[q]?=vs[q-j*k]?:=fun A B hA=>by rw [List.append_assoc,List.getElem?_append_right (by omega),hA,List.getElem?_append_left (by omega)]
             rw [e1 _ _ la,e1 _ _ lb]
           · have la:(cur.toList.take (j*k)++vs).length=j*k+k:=by simp only [List.length_append,List.length_take,hcl,hl];omega
             have lb:((cur.toList.take (n*k)).take (j*k)++vs).length=j*k+k:=by simp only [List.length_append,List.length_take,hcl,hl];omega
             have e1:∀A B:List Value,A.length=j*k+k→(A++B)[q]?=B[q- (j*k+k)]?:=fun A B hA=>by rw [List.getElem?_append_right (by omega),hA]
             rw [e1 _ _ la,e1 _ _ lb,List.getElem?_drop,List.getElem?_drop,List.getElem?_take,if_pos (by omega)]
       · rw [List.getElem?_take,if_neg hq,List.getElem?_eq_none]
         simp only [List.length_append,List.length_take,List.length_drop,hcl,hl];omega

theorem A0 {w:World} {e:TypeId} {sz:Nat} {a:Option Addr} {n c m:Nat} {xs:List Value} (h:w.ownsRow 0 e sz (.slice a n c) m xs) (hn:0<m):∃g,a=some ⟨g,0,none⟩:=by
 rcases h.2 with ⟨_,h0⟩ | ⟨g,cap,cur,hv,_⟩
 · omega
 · simp only [Value.slice.injEq] at hv
   exact ⟨g,hv.1⟩

theorem HK {gd gi:Nat} {r:gx} (hk:r.K.length=96) (sa:Option Addr) (sc:Nat) (pa:Option Addr) (pc:Nat):(fD gd gi r sa sc pa pc).set 108 (.bool true)=fD gd gi { r with dead:=true } sa sc pa pc:=by
 show pV gd::pV gi::((bv r.K++_).set 106 _)=_
 rw [List.set_append_right _ _ (by simp [hk])]
 have:106- (bv r.K).length=10:=by simp [hk]
 rw [this]
 rfl
theorem Pa (w:World):(sizeOf 4).run Tryz.prog w=.ok 1 w:=Tryz.sizeOf4 w

noncomputable def dP (r:gx) (m:ah) (e:Int) (grows:Bool):ah×gx:=if e=1∨e=22 then (m, { r with dead:=true }) else (dW [tN] (if grows then dW [aA r.C.next] m else m),r)

section
variable {w0 w w':World} {N:List Res} {gd gr:Nat} {m:ah} {r:gx} {q:uJ}

theorem ROk.die (ok:ROk r q):ROk { r with dead:=true } q:=⟨ok.KY,ok.D6,ok.kl,ok.poly,ok.chk,ok.cok,ok.names,ok.sn,ok.pn,ok.good⟩

theorem L4 (n:Nm) (h:aj w0 [] w gd q.ps m N) (hb:B63 2 m):∃g w1,(Instr.buildSlice 166 1 #[(0,aK n)]).run Tryz.prog w=.ok (.slice (some ⟨g,0,none⟩) 1 1) w1∧Chg [] w w1∧
   Calls Tryz.prog 136 #[plV gd,.slice (some ⟨g,0,none⟩) 1 1] w1 fun e w'=>e=.returned (.tuple #[])∧aj w0 [] w' gd q.ps (dW [n] m) N:=by
 obtain ⟨g,w1,r1,k1⟩:=(St.start w).lit Il [aK n] (by simp [Value.oneCell',aK]) (by simp)
 refine ⟨g,w1,r1,k1.chg,(z8 _ 1 1 [n] (h.cR k1) (fun w' _ k=>(k.sub (List.sublist_append_right _ _)).rd (i:=0) rfl) (by decide) hb).mono ?_⟩
 rintro e w2 ⟨rfl,h2⟩
 exact ⟨rfl,h2.cut⟩

set_option maxHeartbeats 1000000 in
theorem DE (e:Int) (grows:Bool) (ok:ROk r q) (h:aj w0 [] w gd q.ps m (N++q.T gd gr r)) (hT:iE w0) (hg:grows=true→cQ r.C.next=true) (hb:B63 4 m):
   Calls Tryz.prog 130 #[pV gr,bG (some e),.bool grows] w fun ee w'=>ee=.returned (bG (some e))∧aj w0 [] w' gd q.ps (dP r m e grows).1 (N++q.T gd gr (dP r m e grows).2):=by
 apply qo
 refine ⟨fun b w'=>b=decide (e=1∨e=22)∧w'=w,(kF (some e) 1 w).mono ?_,?_⟩
 · rintro e1 w1 ⟨rfl,rfl⟩
   refine ⟨_,rfl,fun h1=>⟨?_,rfl⟩,fun h1=>(kF (some e) 22 w1).mono ?_⟩
   · have:e=1:=by simpa using h1
     simp [this]
   · rintro e2 w2 ⟨rfl,rfl⟩
     have:e≠1:=by simpa using h1
     exact ⟨_,rfl,by simp [this],rfl⟩
 rintro b w3 ⟨hb3,rfl⟩
 refine ⟨fun hd=>?_,fun hd=>?_⟩
 · have hc:e=1∨e=22:=by rw [hb3] at hd;simpa using hd
   have k:=h.top.self
   obtain ⟨w4,r4,k4⟩:=k.stL (i:=0) (o:=108) (off:=0+108) (T:=4) (v:=.bool true) rfl (Pa _) rfl (by rw [tr ok.kl];decide) rfl
   have k4:St w3 (ij (q.T gd gr r)) w4 (q.T gd gr { r with dead:=true }):=by rw [HK ok.kl] at k4;exact k4
   refine ⟨w4,r4,rfl,?_⟩
   rw [dP,if_pos hc]
   exact h.qw k4
 · have hc:¬(e=1∨e=22):=by rw [hb3] at hd;simpa using hd
   rw [dP,if_neg hc]
   have ldP:∀ {w':World} {m':ah},aj w0 [] w' gd q.ps m' (N++q.T gd gr r)→(Instr.loadAt 142 (.pointer (some ⟨gr,0,none⟩))).run Tryz.prog w'=.ok (plV gd) w':=fun h'=>h'.top.ldP (i:=0) (o:=0) rfl (plA _) (plS _) rfl rfl
   refine ⟨fun w'=>aj w0 [] w' gd q.ps (if grows then dW [aA r.C.next] m else m) (N++q.T gd gr r),⟨fun hgr=>?_,fun hgr=>?_⟩,fun w8 h8=>?_⟩
   · rw [hgr,if_pos rfl]
     have hbn:=bh ok.chk
     have hd:=h.same (Chg.drew [] w3)
     refine ⟨fun w'=>∃m',aj w0 [] w' gd q.ps m' (N++q.T gd gr r),⟨m,hd⟩,_,fun w' ⟨_,h'⟩=>ldP h',_,fun w' ⟨_,h'⟩=>h'.top.ldL (i:=0) (o:=99) rfl (jv _) rfl (rO ok.kl q.sa q.sc q.pa q.pc 1),(jj r.C.next _ (hT.au hd.chg) (hg hgr)).mono ?_⟩
     rintro e5 w5 ⟨rfl,c5⟩
     have h5:=hd.same c5
     obtain ⟨g,w6,r6,c6,hc6⟩:=L4 (aA r.C.next) h5 ⟨by have:=hb.1;omega,by have:=hb.2;omega⟩
     refine ⟨_,rfl,_,fun _ h=>h,⟨_,h5⟩,_,_,_,w6,r6,_,fun _ h=>h,⟨_,h5.same c6⟩,hc6.mono ?_⟩
     rintro e7 w7 ⟨rfl,h7⟩
     exact ⟨rfl,_,fun _ h=>h,⟨_,h7⟩,h7⟩
   · rw [hgr];exact h
   · have hb8:B63 2 (if grows then dW [aA r.C.next] m else m):=by
       cases grows with
       | false=>exact ⟨by have:=hb.1;simp;omega,by have:=hb.2;simp;omega⟩
       | true=>exact B63.of (j:=1) ⟨by have:=hb.1;omega,by have:=hb.2;omega⟩ (kJ [aA r.C.next] m)
     obtain ⟨g,w9,r9,c9,hc9⟩:=L4 tN h8 hb8
     refine ⟨_,ldP h8,_,_,_,w9,r9,hc9.mono ?_⟩
     rintro e10 w10 ⟨rfl,h10⟩
     exact ⟨rfl,rfl,h10⟩
end

end Go.Proofs.YtpmhjnhgpplmnaaGreatDoor
end

section
namespace Go.Proofs.YtpmhjnhgpplmnaaGreatDoor
open Go Sx
set_option maxRecDepth 8000

def fO (c:bH) (Q:List PkD) (p:PkD):bH:= { c with aq:=Q++ [p] }
noncomputable def bg (K:List UInt8) (c:bH) (Q:List PkD) (num:Int) (xs:List Itm) (m:ah):(ah×Option Int)×bH×List bw:=
 if xs=[] then (aX K c m,c,[]) else match (aZ (aA num) m).2 with
   | some e=>(((aZ (aA num) m).1,some e),c,[])
   | none=>match (svA K num xs (aZ (aA num) m).1).2 with
     | some e=>(((svA K num xs (aZ (aA num) m).1).1,some e),c,[])
     | none=>(aX K (fO c Q ⟨num,((bf K num xs).length:Int),(xs.length:Int)⟩) (svA K num xs (aZ (aA num) m).1).1,fO c Q ⟨num,((bf K num xs).length:Int),(xs.length:Int)⟩,aQ num 16 xs)

section
variable {w0 w w':World} {N:List Res} {gd gr g11:Nat} {m:ah} {r:gx} {q:uJ}

def nC (g11:Nat) (c:bH) (sa:Option Addr) (sc:Nat) (pa:Option Addr) (pc:Nat):List Res:=[.arr g11 47 (bP c sa c.snaps.length sc pa c.aq.length pc),lC c sa sc,kX c pa pc]

theorem B3 (c:bH) (sa:Option Addr) (sc:Nat) (pa:Option Addr) (pc:Nat) {ps:List Nat} {M T:List Res} {K:List UInt8} (hk:K.length=96) (h:aj w0 [] w gd ps m (M++(nC g11 c sa sc pa pc++T))) (hK:cI w0) (hT:iE w0) (hpo:c.set.poly<W64) (hnm:∀s∈c.snaps,s.name.length≤4611686018427387904) (hco:aI c=true→gB c) (hb:B63 20 m):
   Calls Tryz.prog 92 #[pV gd,.agg (bv K).toArray,.agg (bP c sa c.snaps.length sc pa c.aq.length pc).toArray] w fun e w'=>e=.returned (bG (aX K c m).2)∧∃ps',aj w0 [] w' gd ps' (aX K c m).1 (M++(nC g11 c sa sc pa pc++T)):=
 u9 K hk c sa _ sc pa _ pc h hK hT ⟨hpo,⟨h.top.rd (i:=1) rfl,fun x _=>fk x⟩,⟨h.top.rd (i:=2) rfl,fun _ _=>rfl⟩,hnm⟩ hco hb

set_option maxHeartbeats 4000000 in
theorem Ei (c:bH) (Q:List PkD) (num:Int) (sa:Option Addr) (sc:Nat) (pa:Option Addr) (pc:Nat) (O:List ItD) (ia:Option Addr) (ic:Nat) (ok:ROk r q)
   (h:aj w0 [] w gd q.ps m ((N++q.T gd gr r)++nC g11 c sa sc pa pc)) (hK:cI w0) (hT:iE w0) (hlast:O≠ []→c.aq=Q++ [⟨num,0,0⟩]∧cQ num=true) (hit:∀w',St w0 [] w' N→ItR w' ia O.length ic O) (hs:bY (O.map ItD.t))
   (hpo:c.set.poly<W64) (hnm:∀s∈c.snaps,s.name.length≤4611686018427387904) (hcok:aI (fO c Q ⟨num,((bf r.K num (O.map ItD.t)).length:Int),((O.map ItD.t).length:Int)⟩)=true→gB (fO c Q ⟨num,((bf r.K num (O.map ItD.t)).length:Int),((O.map ItD.t).length:Int)⟩)) (hco:aI c=true→gB c) (hpn:c.aq.length≤1000000) (hb1:m.steps≤900000) (hb2:m.chs.length≤900000000):
   Calls Tryz.prog 129 #[pV gr,pV g11,.slice ia O.length ic] w fun e w'=>∃ra rc ps',e=.returned (.tuple #[.slice ra (bg r.K c Q num (O.map ItD.t) m).2.2.length rc,bG (bg r.K c Q num (O.map ItD.t) m).1.2])∧
     aj w0 [] w' gd ps' (bg r.K c Q num (O.map ItD.t) m).1.1 (N++q.T gd gr r)∧((bg r.K c Q num (O.map ItD.t) m).1.2=none→aj w0 [] w' gd ps' (bg r.K c Q num (O.map ItD.t) m).1.1 ((N++q.T gd gr r)++(nC g11 (bg r.K c Q num (O.map ItD.t) m).2.1 sa sc pa pc++ [oM ra rc (bg r.K c Q num (O.map ItD.t) m).2.2]))):=by
 obtain ⟨mI,hI⟩:=eI
 have ldD:∀ {w':World} {ps' m' T},aj w0 [] w' gd ps' m' ((N++q.T gd gr r)++T)→(Instr.loadAt 51 (.pointer (some ⟨gr,0,none⟩))).run Tryz.prog w'=.ok (pV gd) w':=fun h'=>h'.cut.top.ldL (i:=0) (o:=0) rfl (pdA _) rfl rfl
 have ldP:∀ {w':World} {ps' m' T},aj w0 [] w' gd ps' m' ((N++q.T gd gr r)++T)→(Instr.loadAt 142 (.pointer (some ⟨gr,0,none⟩))).run Tryz.prog w'=.ok (plV gd) w':=fun h'=>h'.cut.top.ldP (i:=0) (o:=0) rfl (plA _) (plS _) rfl rfl
 have ldK:∀ {w':World} {ps' m' T},aj w0 [] w' gd ps' m' ((N++q.T gd gr r)++T)→(Instr.loadAt 41 (.pointer (some ⟨gr,0+2,none⟩))).run Tryz.prog w'=.ok (.agg (bv r.K).toArray) w':=fun h'=>h'.cut.top.ldP (i:=0) (o:=2) rfl (tJ _) (qg _) (jR ok.kl _ _ _ _) (by simp [ok.kl])
 apply qI
 refine ⟨fun a n c0 w'=>∃(ps':List Nat) (m':ah) (c':bH) (rs:List bw),n=rs.length∧bg r.K c Q num (O.map ItD.t) m=(aX r.K c' m',c',rs)∧c'.set.poly<W64∧(∀s∈c'.snaps,s.name.length≤4611686018427387904)∧(aI c'=true→gB c')∧B63 20 m'∧aj w0 [] w' gd ps' m' ((N++q.T gd gr r)++(nC g11 c' sa sc pa pc++ [oM a c0 rs])),⟨fun hpos=>?_,fun hzero=>?_⟩,?_⟩
 · have hne:O≠ []:=fun e=>by rw [e] at hpos;simp at hpos
   obtain ⟨hpk,hgp⟩:=hlast hne
   have hxs:O.map ItD.t≠ []:=fun e=>hne (List.map_eq_nil_iff.1 e)
   have hcl:c.aq.length=Q.length+1:=by rw [hpk];simp
   have hwr:IntKind.wrap .i64 ((c.aq.length:Int)-1)=(Q.length:Int):=by rw [wrap_i64 (by omega) (by omega)];omega
   have hd:=h.same (Chg.drew [] w)
   obtain ⟨g,hg⟩:∃g,pa=some ⟨g,0,none⟩:=by
     have hown:w.ownsRow 0 91 3 (.slice pa c.aq.length pc) c.aq.length (c.aq.flatMap pkC):=h.top.holds 2 _ rfl
     exact A0 hown (by omega)
   subst hg
   have ldN:∀w' T ps' m',aj w0 [] w' gd ps' m' ((N++q.T gd gr r)++(nC g11 c sa sc (some ⟨g,0,none⟩) pc++T))→(Instr.loadAt 3 (.pointer (some ⟨g,Q.length*3,none⟩))).run Tryz.prog w'=.ok (.int .i64 num) w':=fun w' T ps' m' h'=>by
     have hR:RdE pkC 3 w' (some ⟨g,0,none⟩) c.aq.length pc c.aq:=⟨h'.top.rd (i:=2) rfl,fun _ _=>rfl⟩
     obtain ⟨b,o,hbo,hl⟩:=hR.fld (P:=Tryz.prog) (by decide) jv (i:=Q.length) (j:=0) (x:=⟨num,0,0⟩) (v:=.int .i64 num) (by rw [hpk];simp) rfl
     simp only [Option.some.injEq,Addr.mk.injEq,and_true] at hbo
     obtain ⟨rfl,rfl⟩:=hbo
     have:=hl w' hR
     rw [Int.toNat_natCast,Nat.zero_add,Nat.add_zero] at this
     exact this
   have ldS:∀ {w':World} {ps' m' T},aj w0 [] w' gd ps' m' ((N++q.T gd gr r)++(nC g11 c sa sc (some ⟨g,0,none⟩) pc++T))→(Instr.loadAt 45 (.pointer (some ⟨g11,0+8,none⟩))).run Tryz.prog w'=.ok (.slice (some ⟨g,0,none⟩) c.aq.length pc) w':=fun h'=>h'.top.ldL (i:=0) (o:=8) rfl (Hw _) rfl rfl
   have nilT:∀ {w' ps' m'},aj w0 [] w' gd ps' m' ((N++q.T gd gr r)++nC g11 c sa sc (some ⟨g,0,none⟩) pc)→aj w0 [] w' gd ps' m' ((N++q.T gd gr r)++(nC g11 c sa sc (some ⟨g,0,none⟩) pc++ [])):=fun h'=>by rw [List.append_nil];exact h'
   refine ⟨fun w'=>∃ps' m',aj w0 [] w' gd ps' m' ((N++q.T gd gr r)++(nC g11 c sa sc (some ⟨g,0,none⟩) pc++ [])),⟨_,_,nilT hd⟩,_,_,_,fun w' ⟨_,_,h'⟩=>ldS h',_,_,_,fun w' ⟨_,_,h'⟩=>ldS h',?_⟩
   rw [hwr]
   simp only [Int.toNat_natCast,Nat.zero_add]
   refine ⟨g,0,rfl,by omega,by omega,num,by rw [Nat.zero_add];exact ldN _ [] _ _ (nilT hd),(jj num _ (hT.au hd.chg) hgp).mono ?_⟩
   rintro e w1 ⟨rfl,c1⟩
   have h1:=hd.same c1
   refine ⟨_,rfl,_,ldP h1,(yQ (aA num) h1).mono ?_⟩
   rintro e w2 ⟨rfl,c2⟩
   have h2:=h1.same c2
   have endE:∀ {w':World} {ps' m' y cc},aj w0 [] w' gd ps' m' (N++q.T gd gr r)→bg r.K c Q num (O.map ItD.t) m=((m',some y),cc,[])→∃ra rc ps',Ending.returned (.tuple #[.slice none 0 0,bG (some y)])=.returned (.tuple #[.slice ra (bg r.K c Q num (O.map ItD.t) m).2.2.length rc,bG (bg r.K c Q num (O.map ItD.t) m).1.2])∧
     aj w0 [] w' gd ps' (bg r.K c Q num (O.map ItD.t) m).1.1 (N++q.T gd gr r)∧((bg r.K c Q num (O.map ItD.t) m).1.2=none→aj w0 [] w' gd ps' (bg r.K c Q num (O.map ItD.t) m).1.1 ((N++q.T gd gr r)++(nC g11 (bg r.K c Q num (O.map ItD.t) m).2.1 sa sc (some ⟨g,0,none⟩) pc++ [oM ra rc (bg r.K c Q num (O.map ItD.t) m).2.2]))):=fun h' hw=>by
     rw [hw]
     exact ⟨none,0,_,rfl,h',fun hn=>by cases hn⟩
   refine ⟨_,rfl,fun w'=>(aZ (aA num) m).2=none∧∃ps',aj w0 [] w' gd ps' (aZ (aA num) m).1 ((N++q.T gd gr r)++nC g11 c sa sc (some ⟨g,0,none⟩) pc),⟨fun hin=>?_,fun hout=>?_⟩,?_⟩
   · have ea:aZ (aA num) m=aM m (aA num):=by unfold aZ;rw [hin];rfl
     refine ⟨_,_,ldD h2,(kY (aA num) h2 (by omega) (by omega)).mono ?_⟩
     rintro e w3 ⟨rfl,h3⟩
     refine ⟨_,rfl,_,az hI _ _ _,fun hbad=>?_,fun hok=>⟨by rw [ea];simpa using hok,_,by rw [ea];exact h3⟩⟩
     obtain ⟨y,hy⟩:=Option.isSome_iff_exists.1 hbad
     rw [hy]
     exact endE h3.cut (by unfold bg;rw [if_neg hxs,ea,hy])
   · have ea:aZ (aA num) m=(m,none):=by unfold aZ;rw [hout];rfl
     exact ⟨by rw [ea],_,by rw [ea];exact h2⟩
   rintro w4 ⟨ha,ps1,h4⟩
   obtain ⟨m1,hm1⟩:∃m1,(aZ (aA num) m).1=m1:=⟨_,rfl⟩
   have hc1:=me (aA num) m
   rw [hm1] at h4 hc1
   have h4d:=h4.same (Chg.drew [] w4)
   have hwm:bg r.K c Q num (O.map ItD.t) m=(match (svA r.K num (O.map ItD.t) m1).2 with
     | some e=>(((svA r.K num (O.map ItD.t) m1).1,some e),c,[])
     | none=>(aX r.K (fO c Q ⟨num,((bf r.K num (O.map ItD.t)).length:Int),((O.map ItD.t).length:Int)⟩) (svA r.K num (O.map ItD.t) m1).1,fO c Q ⟨num,((bf r.K num (O.map ItD.t)).length:Int),((O.map ItD.t).length:Int)⟩,aQ num 16 (O.map ItD.t))):=by
     unfold bg
     rw [if_neg hxs,ha,hm1]
   have hNst:∀ {w':World} {ps' m' T},aj w0 [] w' gd ps' m' ((N++q.T gd gr r)++T)→St w0 [] w' N:=fun h'=>h'.cut.cut.rest
   refine ⟨fun w'=>∃ps' m' T,aj w0 [] w' gd ps' m' ((N++q.T gd gr r)++(nC g11 c sa sc (some ⟨g,0,none⟩) pc++T)),⟨_,_,[],nilT h4d⟩,_,_,fun w' ⟨_,_,_,h'⟩=>ldD h',_,fun w' ⟨_,_,_,h'⟩=>ldK h',_,fun w' ⟨_,_,_,h'⟩=>by rw [Nat.zero_add];exact ldN _ _ _ _ h',(Bl r.K ok.kl num ia _ ic O h4d (hK.au h4d.chg) (hT.au h4d.chg) (hit _ (hNst h4d)) hs (by have:=hc1.1;omega) (by have:=hc1.2;omega)).mono ?_⟩
   rintro e w5 ⟨ra,rc,rfl,ps5,h5⟩
   rw [List.append_assoc] at h5
   obtain ⟨o,ho⟩:∃o,(svA r.K num (O.map ItD.t) m1).2=o:=⟨_,rfl⟩
   rw [ho] at h5 hwm ⊢
   refine ⟨_,_,_,_,_,rfl,_,fun _ h=>h,⟨_,_,_,h5⟩,?_⟩
   have k5:=h5.top.self
   obtain ⟨w6,r6,k6⟩:=k5.Mw (i:=2) (j:=Q.length) (k:=3) (vs:=H6 o num (bf r.K num (O.map ItD.t)).length O.length) rfl (pqS _) (J9 _ _ _ _) (Jm _ _ _ _) (by omega)
   have h6:=h5.qw k6
   refine ⟨w6,by rw [Nat.zero_add];exact r6,_,az hI _ _ _,fun hbad=>?_,fun hok=>?_⟩
   · obtain ⟨y,hy⟩:=Option.isSome_iff_exists.1 hbad
     rw [hy]
     exact endE h6.cut (by rw [hwm,hy])
   · have ho':o=none:=by simpa using hok
     subst ho'
     obtain ⟨p,hp⟩:∃p:PkD,(⟨num,((bf r.K num (O.map ItD.t)).length:Int),((O.map ItD.t).length:Int)⟩:PkD)=p:=⟨_,rfl⟩
     rw [hp] at hwm
     have hcnt:=z7 r.K num (O.map ItD.t) m1
     have hQl:(Q.flatMap pkC).length=Q.length*3:=by rw [fE (k:=3) (fun _ _=>rfl),Nat.mul_comm]
     have hcells:(c.aq.flatMap pkC).take (Q.length*3)++H6 none num (bf r.K num (O.map ItD.t)).length O.length++(c.aq.flatMap pkC).drop (Q.length*3+3)=(Q++ [p]).flatMap pkC:=by
       rw [hpk,List.flatMap_append,List.take_append_of_le_length (by omega),List.take_of_length_le (by omega),List.drop_of_length_le (by rw [List.length_append,hQl];exact Nat.le_refl _),List.append_nil,List.flatMap_append,←hp,List.length_map]
       rfl
     have hl2:(Q++ [p]).length=c.aq.length:=by rw [hcl];simp
     refine ⟨ps5,(svA r.K num (O.map ItD.t) m1).1,fO c Q p,aQ num 16 (O.map ItD.t),rfl,hwm,hpo,hnm,by rw [←hp];exact hcok,⟨?_,?_⟩,?_⟩
     · have:=hcnt.1;have:=hc1.1;have:=hs.num;omega
     · have:=hcnt.2.1;have:=hc1.2;omega
     · have h7:=h6
       simp only [List.set_append_left,nC,kX,lC] at h7
       unfold nC lC kX fO
       rw [hl2]
       rw [←hcells]
       exact h6
 · have hO:O=[]:=by
     have:O.length=0:=by simpa using hzero
     exact List.eq_nil_of_length_eq_zero this
   subst hO
   refine ⟨q.ps,m,c,[],rfl,rfl,hpo,hnm,hco,⟨by omega,by omega⟩,?_⟩
   have h2:=h.cR ((St.start w).bZ 100 35)
   rw [List.append_assoc] at h2
   exact h2
 · rintro a n c0 w7 ⟨ps',m',c',rs,rfl,hw,hpo',hnm',hco',hb',h7⟩
   rw [hw]
   have h7d:=h7.same (Chg.drew [] w7)
   refine ⟨fun w'=>∃ps' m',aj w0 [] w' gd ps' m' ((N++q.T gd gr r)++(nC g11 c' sa sc pa pc++ [oM a c0 rs])),⟨_,_,h7d⟩,_,_,fun w' ⟨_,_,h'⟩=>ldD h',_,fun w' ⟨_,_,h'⟩=>ldK h',_,fun w' ⟨_,_,h'⟩=>h'.top.ldA (i:=0) (l:=bP c' sa c'.snaps.length sc pa c'.aq.length pc) rfl (kG _) (fT _) rfl,(B3 c' sa sc pa pc ok.kl h7d hK hT hpo' hnm' hco' hb').mono ?_⟩
   rintro e w8 ⟨rfl,ps'',h8⟩
   exact ⟨_,rfl,_,fun _ h=>h,⟨_,_,h8⟩,a,c0,ps'',rfl,h8.cut,fun _=>h8⟩
end

end Go.Proofs.YtpmhjnhgpplmnaaGreatDoor
end

section
namespace Go.Proofs.YtpmhjnhgpplmnaaGreatDoor
open Go.Shelf
def AL:Go.Shelf.Ren:=⟨fun | 6=>168 | 15=>216 | 14=>251 | 28=>288 | 29=>274 | 20=>303 | 21=>304 | 22=>305 | 23=>306 | 24=>307 | 25=>308 | 26=>309 | 27=>310 | 46=>343 | 47=>332 | 48=>333 | 49=>344 | 50=>345 | 57=>369 | n=>n,fun | 22=>48 | 24=>100 | 25=>257 | 3=>3 | 39=>299 | 0=>0 | 53=>370 | 55=>42 | 4=>4 | 46=>376 | 45=>375 | 50=>73 | 5=>5 | 9=>9 | 66=>434 | 70=>438 | 76=>467 | 77=>315 | n=>n,fun | n=>n⟩
theorem CY:Go.Proofs.SlLaysF0.n6 Tryz.prog AL:= {
 mixed:=by kernel_rfl
 f6:=⟨Tryz.f168.name,by decide,Tryz.func168.trans (congrArg some (by kernel_rfl))⟩
 f14:=⟨Tryz.f251.name,by decide,Tryz.func251.trans (congrArg some (by kernel_rfl))⟩
 f15:=Tryz.func216.trans (congrArg some (by kernel_rfl))
 f20:=⟨Tryz.f303.name,by decide,Tryz.func303.trans (congrArg some (by kernel_rfl))⟩
 f21:=⟨Tryz.f304.name,by decide,Tryz.func304.trans (congrArg some (by kernel_rfl))⟩
 f22:=⟨Tryz.f305.name,by decide,Tryz.func305.trans (congrArg some (by kernel_rfl))⟩
 f23:=⟨Tryz.f306.name,by decide,Tryz.func306.trans (congrArg some (by kernel_rfl))⟩
 f24:=⟨Tryz.f307.name,by decide,Tryz.func307.trans (congrArg some (by kernel_rfl))⟩
 f25:=⟨Tryz.f308.name,by decide,Tryz.func308.trans (congrArg some (by kernel_rfl))⟩
 f26:=⟨Tryz.f309.name,by decide,Tryz.func309.trans (congrArg some (by kernel_rfl))⟩
 f27:=⟨Tryz.f310.name,by decide,Tryz.func310.trans (congrArg some (by kernel_rfl))⟩
 f28:=Tryz.func288.trans (congrArg some (by kernel_rfl))
 f29:=Tryz.func274.trans (congrArg some (by kernel_rfl))
 f46:=⟨Tryz.f343.name,by decide,Tryz.func343.trans (congrArg some (by kernel_rfl))⟩
 f47:=Tryz.func332.trans (congrArg some (by kernel_rfl))
 f48:=Tryz.func333.trans (congrArg some (by kernel_rfl))
 f49:=⟨Tryz.f344.name,by decide,Tryz.func344.trans (congrArg some (by kernel_rfl))⟩
 f50:=⟨Tryz.f345.name,by decide,Tryz.func345.trans (congrArg some (by kernel_rfl))⟩
 f57:=⟨Tryz.f369.name,by decide,Tryz.func369.trans (congrArg some (by kernel_rfl))⟩
 t0:=Tryz.underlying0
 a0:=Tryz.isAgg0
 z0:=Tryz.sizeOf0
 v0:=Tryz.zeroValue0
 t3:=Tryz.underlying3
 a3:=Tryz.isAgg3
 z3:=Tryz.sizeOf3
 v3:=Tryz.zeroValue3
 t4:=Tryz.underlying4
 a4:=Tryz.isAgg4
 z4:=Tryz.sizeOf4
 v4:=Tryz.zeroValue4
 t5:=Tryz.underlying5
 a5:=Tryz.isAgg5
 z5:=Tryz.sizeOf5
 v5:=Tryz.zeroValue5
 t9:=Tryz.underlying9
 a9:=Tryz.isAgg9
 z9:=Tryz.sizeOf9
 v9:=Tryz.zeroValue9
 t22:=Tryz.underlying48
 a22:=Tryz.isAgg48
 z22:=Tryz.sizeOf48
 v22:=Tryz.zeroValue48
 t25:=Tryz.underlying257
 a25:=Tryz.isAgg257
 z25:=Tryz.sizeOf257
 v25:=Tryz.zeroValue257
 t39:=Tryz.underlying299
 a39:=Tryz.isAgg299
 z39:=Tryz.sizeOf299
 v39:=Tryz.zeroValue299
 t45:=Tryz.underlying375
 a45:=Tryz.isAgg375
 z45:=Tryz.sizeOf375
 v45:=Tryz.zeroValue375
 t46:=Tryz.underlying376
 a46:=Tryz.isAgg376
 z46:=Tryz.sizeOf376
 v46:=Tryz.zeroValue376
 t50:=Tryz.underlying73
 a50:=Tryz.isAgg73
 z50:=Tryz.sizeOf73
 v50:=Tryz.zeroValue73
 t53:=Tryz.underlying370
 a53:=Tryz.isAgg370
 z53:=Tryz.sizeOf370
 v53:=Tryz.zeroValue370
 t55:=Tryz.underlying42
 a55:=Tryz.isAgg42
 z55:=Tryz.sizeOf42
 v55:=Tryz.zeroValue42
 t66:=Tryz.underlying434
 a66:=Tryz.isAgg434
 z66:=Tryz.sizeOf434
 v66:=Tryz.zeroValue434
 t70:=Tryz.underlying438
 a70:=Tryz.isAgg438
 z70:=Tryz.sizeOf438
 v70:=Tryz.zeroValue438
 t76:=Tryz.underlying467
 a76:=Tryz.isAgg467
 z76:=Tryz.sizeOf467
 v76:=Tryz.zeroValue467
 t77:=Tryz.underlying315
 a77:=Tryz.isAgg315
 z77:=Tryz.sizeOf315
 v77:=Tryz.zeroValue315 }
end Go.Proofs.YtpmhjnhgpplmnaaGreatDoor
end

section
namespace Go.Proofs.YtpmhjnhgpplmnaaGreatDoor
open Go Sx
set_option maxRecDepth 8000

def DY (x y:bw):Int:=gI x.id y.id
theorem GN (x y:bw):ltOf DY x y=lexLt x.id y.id:=by unfold ltOf DY;exact G4 _ _
theorem MJ:Sort.SWO (ltOf DY) where
 irrefl x:=by rw [GN];exact lex_irrefl _
 trans x y z h1 h2:=by rw [GN] at*;exact lex_trans _ _ _ h1 h2
 ntrans x y z h1 h2:=by
   rw [GN] at*
   cases h:lexLt x.id z.id with
   | false=>rfl
   | true=>
     cases h3:lexLt z.id y.id with
     | true=>rw [lex_trans _ _ _ h h3] at h1;cases h1
     | false=>have e:=tA _ _ h2 h3;rw [e] at h1;rw [h1] at h;cases h

theorem K1 (blk off size:Nat) (w:World):CmpLays Tryz.prog 218 #[] aF 35 DY blk off size w:=fun _ _ _ _ x y=>(N1 x y _).mono fun _ _ ⟨h1,h2⟩=>⟨h1,h2⟩

theorem xz (d:Array bw):(Sort.flatK aF 35 d).toList=d.toList.flatMap aF:=by
 have hl:∀x∈d.toList,(aF x).length=35:=fun x _=>aJ x
 apply List.ext_getElem?
 intro t
 have hs:=fE hl
 by_cases ht:t<d.size*35
 · have h1:t / 35<d.size:=by omega
   have h2:=xy hl (i:=t / 35) (j:=t%35) (x:=d[t / 35]) (by simp [h1]) (by omega)
   rw [show t / 35*35+t%35=t by omega] at h2
   rw [h2]
   have h3:t%35<(aF d[t / 35]).length:=by rw [aJ];omega
   have hz:t<(Sort.flatK aF 35 d).size:=by simpa using ht
   rw [Array.getElem?_toList,Array.getElem?_eq_getElem hz,List.getElem?_eq_getElem h3]
   have:=Sort.get_flatK aF 35 d t ht
   rw [getElem!_pos _ t hz,getElem!_pos d (t / 35) h1,getElem!_pos (aF d[t / 35]) (t%35) h3] at this
   rw [this]
 · rw [List.getElem?_eq_none (by simp;omega),List.getElem?_eq_none (by rw [hs];simp;omega)]

theorem Jx (F cur:Array Value) (h:F.size≤cur.size):(Sort.putCells id 0 F cur).size=cur.size∧(Sort.putCells id 0 F cur).toList.take F.size=F.toList:=by
 refine ⟨by simp [Sort.putCells],?_⟩
 apply List.ext_getElem?
 intro i
 rw [List.getElem?_take]
 by_cases hi:i<F.size
 · rw [if_pos hi]
   simp only [Sort.putCells,Array.getElem?_toList,Array.getElem?_mapIdx]
   rw [Array.getElem?_eq_getElem (by omega),Array.getElem?_eq_getElem hi]
   simp [hi,getElem!_pos F i hi]
 · rw [if_neg hi,List.getElem?_eq_none (by simp;omega)]

theorem Hh {w0 w:World} {X:List Nat} {M:List Res} (hS:St w0 X w M) {i:Nat} {a:Option Addr} {n c:Nat} {l:List bw} (hi:M[i]?=some (.row 100 35 (.slice a n c) n (l.flatMap aF))) (hb:n<4611686018427387904):
   Calls Tryz.prog 168 #[.slice a n c,.func (.func 218) #[] #[]] w fun e w'=>e=.returned (.tuple #[])∧
     ∃l':List bw,l'.Perm l∧l'.Pairwise (fun x y=>lexLt y.id x.id=false)∧St w0 X w' (M.set i (.row 100 35 (.slice a n c) n (l'.flatMap aF))):=by
 have hh:w.ownsRow 0 100 35 (.slice a n c) n (l.flatMap aF):=hS.holds i _ hi
 have hln:l.length=n:=by
   have h1:=hh.1
   rw [fE fun x _=>aJ x] at h1
   omega
 rcases hh.2 with ⟨h0,rfl⟩ | ⟨g,cap,cur,h0,_,hg,hnc,hcm,hcs,htk⟩
 · have h:=AnyF.slices_SortFunc_none CY a c (.func (.func 218) #[] #[]) w
   refine Calls.mono h ?_
   rintro e w' ⟨rfl,rfl⟩
   have hl:l=[]:=List.eq_nil_of_length_eq_zero hln
   subst hl
   refine ⟨rfl,[],List.Perm.refl _,List.Pairwise.nil,?_⟩
   have hset:M.set i (.row 100 35 (.slice a 0 c) 0 (([]:List bw).flatMap aF))=M:=by
     apply List.ext_getElem?
     intro j
     rw [List.getElem?_set]
     by_cases e:i=j
     · subst e;rw [if_pos rfl,if_pos (List.getElem?_eq_some_iff.1 hi).1,hi]
     · rw [if_neg e]
   rw [hset]
   exact hS
 · simp only [Value.slice.injEq] at h0
   obtain ⟨rfl,_,rfl⟩:=h0
   have hsz:l.toArray.size=n:=by simpa using hln
   have hlt:g<w.heap.size:=(Array.getElem?_eq_some_iff.1 hg).1
   have hH:Sort.HoldsK aF 35 w g 0 l.toArray:=by
     intro j hj
     have hj':j<n*35:=by simpa [hln] using hj
     refine ⟨?_,by simp [World.frozen?,hg]⟩
     have h1:(Sort.flatK aF 35 l.toArray)[j]! =cur[j]'(by rw [hcs];have:=Nat.mul_le_mul_right 35 hnc;omega):=by
       have e:=xz l.toArray
       rw [List.toList_toArray,←htk] at e
       have e2:=congrArg (fun q=>q[j]?) e
       simp only [Array.getElem?_toList,List.getElem?_take,if_pos hj'] at e2
       rw [Array.getElem?_eq_getElem hj,Array.getElem?_eq_getElem (by rw [hcs];have:=Nat.mul_le_mul_right 35 hnc;omega)] at e2
       rw [getElem!_pos _ j hj]
       exact Option.some.inj e2
     rw [id,h1,cell_of_row w g (0+j) cur _ _ hg,Nat.zero_add]
     exact Array.getElem?_eq_getElem _
   have eg:∀args w,(callFunc 218 args).run Tryz.prog w=.ok (.enter 218 args) w:=fun args w=>mO (by kernel_rfl) args w
   have h:=AnyQ.slices_SortFunc CY 35 Tryz.isAgg100 Tryz.sizeOf100 aF aJ dR DY MJ 218 #[] g 0 c l.toArray w eg (K1 g 0 l.toArray.size w) hH hlt (by omega)
   rw [hsz] at h
   refine Calls.mono h ?_
   rintro e w' ⟨rfl,d',q,os,hp,hs,rfl⟩
   obtain ⟨hp1,hp2,hp3⟩:=hp
   have hd:d'.size=n:=by omega
   have hperm:d'.toList.Perm l:=by
     have e1:(d'.extract 0 n).toList=d'.toList:=by rw [←hd];simp
     have e2:(l.toArray.extract 0 n).toList=l:=by rw [←hsz];simp
     rw [e1,e2] at hp3
     exact hp3
   have hsrt:d'.toList.Pairwise fun x y=>lexLt y.id x.id=false:=by
     rw [List.pairwise_iff_getElem]
     intro j k hj hk hjk
     have hj2:j<d'.size:=by simpa using hj
     have hk2:k<d'.size:=by simpa using hk
     have:=hs j k (Nat.zero_le _) hjk (by omega)
     rw [GN,getElem!_pos d' k hk2,getElem!_pos d' j hj2] at this
     simpa using this
   have hF:(Sort.flatK aF 35 d').size≤cur.size:=by rw [Sort.size_flatK,hd,hcs];exact Nat.mul_le_mul_right 35 hnc
   obtain ⟨p1,p2⟩:=Jx (Sort.flatK aF 35 d') cur hF
   have hheap:(sortWorldK aF 35 w g 0 q d' os).heap=(w.heap.modify g (Sort.onCells (Sort.putCells id 0 (Sort.flatK aF 35 d'))))++os:=rfl
   have hgz:(sortWorldK aF 35 w g 0 q d' os).heap[g]?=some (.cells (Sort.putCells id 0 (Sort.flatK aF 35 d') cur) 100 (0,0)):=by
     rw [hheap,Array.getElem?_append_left (by simpa using hlt),Array.getElem?_modify,if_pos rfl,hg]
     rfl
   refine ⟨rfl,d'.toList,hperm,hsrt,hS.upd hi ⟨rfl,rfl,rfl,by rw [hheap];simp,fun k hk hx=>?_⟩ ⟨?_,.inr ⟨g,c,_,rfl,Nat.zero_le _,hgz,hnc,hcm,by rw [p1,hcs],?_⟩⟩ fun k hk=>.inl hk⟩
   · have hne:g≠k:=fun e=>hx (by simp [Res.fp,Value.ownBlock,e])
     rw [hheap,Array.getElem?_append_left (by simpa using hk),Array.getElem?_modify,if_neg hne]
   · rw [fE fun x _=>aJ x]
     simp [hd,Nat.mul_comm]
   · rw [←xz,←p2,Sort.size_flatK,hd]

end Go.Proofs.YtpmhjnhgpplmnaaGreatDoor
end

section
namespace Go.Proofs.YtpmhjnhgpplmnaaGreatDoor
open Go Sx
set_option maxRecDepth 8000

theorem Hz {β:Type} (bn:β→Nat) {L:List β} (hn:(L.map bn).Nodup) (seen:Array Nat) {p:β} (hp:p∈L.filter fun x=> !seen.contains (bn x)):
   (L.filter fun x=> !seen.contains (bn x)).Perm (p::L.filter fun x=> !(seen.push (bn p)).contains (bn x)):=by
 have key:∀(L:List β),(L.map bn).Nodup→p∈L→L.Perm (p::L.filter fun x=>bn x≠bn p):=by
   intro L
   induction L with
   | nil=>intro _ h;simp at h
   | cons x L ih=>
     intro hn hm
     rw [List.map_cons,List.nodup_cons] at hn
     rcases List.mem_cons.1 hm with rfl | hm
     · have hL:L.filter (fun x=>decide (bn x≠bn p))=L:=List.filter_eq_self.2 fun y hy=>by
         simp only [ne_eq,decide_eq_true_eq]
         exact fun h=>hn.1 (List.mem_map.2 ⟨y,hy,h⟩)
       rw [List.filter_cons,if_neg (by simp),hL]
     · have hx:bn x≠bn p:=fun h=>hn.1 (List.mem_map.2 ⟨p,hm,h.symm⟩)
       rw [List.filter_cons,if_pos (by simpa using hx)]
       exact ((ih hn.2 hm).cons x).trans (List.Perm.swap _ _ _)
 have hsub:((L.filter fun x=> !seen.contains (bn x)).map bn).Nodup:=hn.sublist ((List.filter_sublist).map _)
 refine (key _ hsub hp).trans (List.Perm.of_eq ?_)
 congr 1
 rw [List.filter_filter]
 apply List.filter_congr
 intro x _
 simp only [Array.contains_push,ne_eq]
 by_cases h2:bn x=bn p<;>cases h1:seen.contains (bn x)<;>simp [h1,h2]

def oD (es:Array MapEntry) (M:Refs):List (MapEntry×bw):=es.toList.zip M
def rR (es:Array MapEntry) (M:Refs) (seen:Array Nat):List (MapEntry×bw):=(oD es M).filter fun p=> !seen.contains p.1.born

section
variable {es:Array MapEntry} {clock:Nat} {M:Refs}
theorem zip_fst (hE:bF kyV vlV es clock M):(oD es M).map (·.1)=es.toList:=by
 rw [oD,List.map_fst_zip]
 have:=hE.len;simp;omega
theorem wG (hE:bF kyV vlV es clock M):(oD es M).map (·.2)=M:=by
 rw [oD,List.map_snd_zip]
 have:=hE.len;simp;omega
theorem wS (hE:bF kyV vlV es clock M):((oD es M).map fun p=>p.1.born).Nodup:=by
 have:=hE.born
 rw [←zip_fst hE,List.map_map] at this
 exact this
theorem FZ (hE:bF kyV vlV es clock M) {p:MapEntry×bw} (hp:p∈oD es M):p.1∈es.toList∧p.1.key=kyV p.2∧p.1.val=vlV p.2:=by
 obtain ⟨i,hi⟩:=List.getElem?_of_mem hp
 rw [oD,List.getElem?_zip_eq_some] at hi
 obtain ⟨r,h1,h2,h3⟩:=hE.at_ hi.1
 rw [hi.2,Option.some.injEq] at h1
 subst h1
 exact ⟨List.mem_of_getElem? hi.1,h2,h3⟩
theorem y6 (hE:bF kyV vlV es clock M) (seen:Array Nat):(rR es M seen).map (·.1)=(leftOf es seen).toList:=by
 rw [leftOf,Array.toList_filter,←zip_fst hE,List.filter_map,rR]
 rfl
theorem DT (hE:bF kyV vlV es clock M) {seen:Array Nat} {e:MapEntry} (he:e∈(leftOf es seen).toList):∃r,(e,r)∈rR es M seen:=by
 rw [←y6 hE,List.mem_map] at he
 obtain ⟨p,hp,rfl⟩:=he
 exact ⟨p.2,hp⟩
end

section
variable {w0 w:World} {X:List Nat} {N:List Res}

set_option maxHeartbeats 1000000 in
theorem Ht (gi gm:Nat) (S:Refs) (h:fV w0 X w gi gm S N) (hb:S.length≤1000000):
   Calls Tryz.prog 121 #[.pointer (some ⟨gi,0,none⟩)] w fun e w'=>∃a n c,e=.returned (.slice a n c)∧fV w0 X w' gi gm S (.row 100 35 (.slice a n c) n (S.flatMap aF)::N):=by
 obtain ⟨es,clock,M,hE,hM,hS⟩:=h
 have hml:M.length≤1000000:=by have:=hM.perm.length_eq;omega
 apply rF
 have hg:w.heap[gm]?=some (.map es clock):=hS.holds 1 _ rfl
 have hit:St w0 X (w.alloc (.mapIter (some gm) clock #[] clock)) ((.arr gi 272 [.map (some gm)]:: .blk gm (.map es clock)::N)++ [.blk w.heap.size (.mapIter (some gm) clock #[] clock)]):=hS.add (Chg.alloc _ _) (heap_alloc_new w _) (by simp [Res.fp])
 have h1:St w0 X (w.alloc (.mapIter (some gm) clock #[] clock)) (.arr gi 272 [.map (some gm)]:: .blk gm (.map es clock):: .blk w.heap.size (.mapIter (some gm) clock #[] clock):: .row 100 35 (.slice none 0 0) 0 (([]:Refs).flatMap aF)::N):=by
   have:=(hit.bZ 100 35).perm (N:=.arr gi 272 [.map (some gm)]:: .blk gm (.map es clock)::([.blk w.heap.size (.mapIter (some gm) clock #[] clock),.row 100 35 (.slice none 0 0) 0 []]++N)) (by
     rw [List.append_assoc]
     exact List.Perm.cons _ (List.Perm.cons _ List.perm_append_comm))
   exact this
 obtain ⟨gr,hgr⟩:∃gr,w.heap.size=gr:=⟨_,rfl⟩
 rw [hgr] at h1
 refine ⟨_,hS.ldL (i:=0) (l:=[.map (some gm)]) rfl (mpA _) rfl rfl,_,_,run_range_map w 270 87 100 gm es clock IU hg,
   fun xa xn xc w'=>∃(seen:Array Nat) (out:Refs),xn=out.length∧(out++(rR es M seen).map (·.2)).Perm M∧St w0 X w' (.arr gi 272 [.map (some gm)]:: .blk gm (.map es clock):: .blk gr (.mapIter (some gm) clock seen clock):: .row 100 35 (.slice xa xn xc) xn (out.flatMap aF)::N),
   fun _ xn _ _=>M.length-xn,⟨#[],[],rfl,?_,h1⟩,?_⟩
 · have:rR es M #[]=oD es M:=List.filter_eq_self.2 fun p _=>by simp
   rw [this,wG hE,List.nil_append]
 rintro xa xn xc w2 ⟨seen,out,rfl,hperm,h2⟩
 rw [hgr]
 have hr2:w2.heap[gr]?=some (.mapIter (some gm) clock seen clock):=h2.holds 2 _ rfl
 have hg2:w2.heap[gm]?=some (.map es clock):=h2.holds 1 _ rfl
 rcases run_next_at (P:=Tryz.prog) w2 0 gr gm clock clock seen es clock hr2 hg2 hE.old (Nat.le_refl _) with ⟨hz,hrun⟩ | ⟨e,he,w3,hw3,hrun⟩
 · refine ⟨false,[],w2,hrun,fun h=>(by cases h),fun _=>?_⟩
   have hl0:rR es M seen=[]:=by
     have:=y6 hE seen
     have h0:(leftOf es seen).toList=[]:=List.eq_nil_of_length_eq_zero (by simpa using hz)
     rw [h0] at this
     exact List.map_eq_nil_iff.1 this
   rw [hl0,List.map_nil,List.append_nil] at hperm
   have hol:out.length≤1000000:=by have:=hperm.length_eq;omega
   refine (Hh h2 (i:=3) (l:=out) rfl (by omega)).mono ?_
   rintro e w4 ⟨rfl,l',hp',hs',h4⟩
   have hlS:=hM.sorted (hp'.trans hperm) hs'
   subst hlS
   refine ⟨rfl,xa,_,xc,rfl,es,clock,M,hE,hM,h4.sub ?_⟩
   exact List.Sublist.cons_cons _ (List.Sublist.cons_cons _ (List.Sublist.cons _ (List.Sublist.refl _)))
 · refine ⟨true,[e.key,e.val],_,hrun,fun _=>?_,fun h=>(by cases h)⟩
   obtain ⟨r,hr⟩:=DT hE he
   have hmem:=(List.mem_filter.1 hr).1
   obtain ⟨he1,hk,hv⟩:=FZ hE hmem
   have h3:St w0 X w3 (.arr gi 272 [.map (some gm)]:: .blk gm (.map es clock):: .blk gr (.mapIter (some gm) clock seen clock):: .row 100 35 (.slice xa out.length xc) out.length (out.flatMap aF)::N):=by
     rcases hw3 with rfl | rfl
     · exact h2
     · exact h2.drew
   have h3':=St.uD h3 (i:=2) (o':=.mapIter (some gm) clock (seen.push e.born) clock) rfl
   have h3':St w0 X (w3.putObj gr (.mapIter (some gm) clock (seen.push e.born) clock)) (.arr gi 272 [.map (some gm)]:: .blk gm (.map es clock):: .blk gr (.mapIter (some gm) clock (seen.push e.born) clock):: .row 100 35 (.slice xa out.length xc) out.length (out.flatMap aF)::N):=h3'
   have hent:=run_entry_at (P:=Tryz.prog) _ gr gm clock seen es clock e (h3'.holds 2 _ rfl) (h3'.holds 1 _ rfl) he1 hE.born
   have hv':e.val=.agg (aF r).toArray:=hv
   rw [hv'] at hent
   have hstep:=Hz (fun p:MapEntry×bw=>p.1.born) (wS hE) seen hr
   have hp2:(out++ [r]++(rR es M (seen.push e.born)).map (·.2)).Perm M:=by
     refine List.Perm.trans ?_ hperm
     rw [List.append_assoc]
     exact (List.Perm.append_left out (hstep.map fun p:MapEntry×bw=>p.2).symm)
   have hlt:out.length<M.length:=by have:=hp2.length_eq;simp at this;omega
   obtain ⟨g5,w5,r5,h5⟩:=h3'.aD rfZ
   have e5:∀v,(.arr gi 272 [.map (some gm)]:: .blk gm (.map es clock):: .blk gr (.mapIter (some gm) clock (seen.push e.born) clock):: .row 100 35 (.slice xa out.length xc) out.length (out.flatMap aF)::N++ [Res.arr g5 100 v]:List Res)[N.length+4]?=some (.arr g5 100 v):=by
     intro v
     rw [List.getElem?_append_right (by simp)];simp
   obtain ⟨w6,r6,h6⟩:=h5.stA (i:=N.length+4) (v:=aF r) (e5 _) (rfS _) (aJ _) (aJ _) (dR r)
   have hset:(.arr gi 272 [.map (some gm)]:: .blk gm (.map es clock):: .blk gr (.mapIter (some gm) clock (seen.push e.born) clock):: .row 100 35 (.slice xa out.length xc) out.length (out.flatMap aF)::N++ [Res.arr g5 100 (aF dX)]:List Res).set (N.length+4) (.arr g5 100 (aF r))=.arr gi 272 [.map (some gm)]:: .blk gm (.map es clock):: .blk gr (.mapIter (some gm) clock (seen.push e.born) clock):: .row 100 35 (.slice xa out.length xc) out.length (out.flatMap aF)::N++ [Res.arr g5 100 (aF r)]:=by simp
   rw [hset] at h6
   obtain ⟨g7,w7,vb,vd,w8,r7,r8,h8,_⟩:=h6.sH (i:=3) (ty:=48) rfT rfl (aF r) (aJ r) (by decide) (dR r) (by omega) (by simp only [maxLen];omega)
   refine ⟨_,_,_,hent,g5,w5,r5,w6,r6,_,h6.ldA (i:=N.length+4) (l:=aF r) (T':=100) (g:=g5) (e5 _) (rfA _) (rfS _) (aJ r),_,_,_,_,r7,_,_,_,_,r8,⟨seen.push e.born,out++ [r],by simp,hp2,?_⟩,(by show M.length- (out.length+1)<M.length-out.length;omega)⟩
   have e9:(out++ [r]).flatMap aF=out.flatMap aF++aF r:=by simp
   rw [e9]
   exact h8.sub (List.Sublist.cons_cons _ (List.Sublist.cons_cons _ (List.Sublist.cons_cons _ (List.Sublist.cons_cons _ (List.sublist_append_left _ _)))))
end

end Go.Proofs.YtpmhjnhgpplmnaaGreatDoor
end

section
namespace Go.Proofs.YtpmhjnhgpplmnaaGreatDoor
open Go Sx
set_option maxRecDepth 8000

section
variable {w0 w w':World} {X:List Nat} {N N':List Res} {gi gm:Nat} {S S':Refs}

theorem fV.asc (h:fV w0 X w gi gm S N):Asc S:=by
 obtain ⟨es,ck,M,hE,hM,hS⟩:=h
 exact hM.asc
theorem fV.self (h:fV w0 X w gi gm S N):fV w [gi,gm] w gi gm S []:=by
 obtain ⟨es,ck,M,hE,hM,hS⟩:=h
 refine ⟨es,ck,M,hE,hM,?_⟩
 exact (hS.sub (N:=[.arr gi 272 [.map (some gm)],.blk gm (.map es ck)]) (List.Sublist.cons_cons _ (List.Sublist.cons_cons _ (List.nil_sublist _)))).self
theorem fV.N7 (h:fV w0 X w gi gm S N) {a:Option Addr} {n c sz:Nat} {cs:List Value} (hr:Rd w a n c sz cs) (hne:∀v∈cs,∀m,v≠ .map m) (hc:Chg [gi,gm] w w'):Rd w' a n c sz cs:=by
 obtain ⟨es,ck,M,hE,hM,hS⟩:=h
 have h1:w.heap[gi]?=some (.cells #[.map (some gm)] 272 (0,0)):=hS.holds 0 _ rfl
 have h2:w.heap[gm]?=some (.map es ck):=hS.holds 1 _ rfl
 refine ⟨?_,hr.len,hr.le,hr.nil⟩
 rcases hr.cells with h0 | ⟨b,f,ha,hq⟩
 · exact .inl h0
 · refine .inr ⟨b,f,ha,fun j v hv=>?_⟩
   have h3:=hq j v hv
   have n1:b≠gi:=fun e=>by
     subst e
     rw [cell_of_row w b _ _ _ _ h1] at h3
     have:=Array.mem_of_getElem? h3
     simp at this
     exact hne v (List.mem_of_getElem? hv) _ this
   have n2:b≠gm:=fun e=>by
     subst e
     unfold World.cell? at h3
     simp [h2] at h3
   rw [←h3]
   exact World.cell?_of_block (hc.block b (World.block_lt_of_cell? w _ h3) (by simp [n1,n2]))
theorem JY (l:List Int):∀v∈zv l,∀m,v≠ .map m:=fun v hv m=>by
 obtain ⟨x,_,rfl⟩:=List.mem_map.1 hv
 simp
theorem fV.Oa (h:fV w0 X w gi gm S N) {a:Option Addr} {n c:Nat} {l:List Int} (hr:RdZ w a n c l) (hc:Chg [gi,gm] w w'):RdZ w' a n c l:=h.N7 hr (JY l) hc

theorem rQ {α β:Type} :∀(l:List α) (m:List β) (j:Nat),(l.eraseIdx j).zip (m.eraseIdx j)=(l.zip m).eraseIdx j
 | [],m,j=>by simp
 | a::l,[],j=>by simp
 | a::l,b::m,0=>rfl
 | a::l,b::m,j+1=>by simp [rQ l m j]

theorem D7 {α:Type} {L:List α} (h:L.Nodup) {i j:Nat} {x:α} (hi:L[i]?=some x) (hj:L[j]?=some x):i=j:=by
 obtain ⟨h1,e1⟩:=List.getElem?_eq_some_iff.1 hi
 obtain ⟨h2,e2⟩:=List.getElem?_eq_some_iff.1 hj
 have hp:=List.pairwise_iff_getElem.1 h
 rcases Nat.lt_trichotomy i j with hlt | rfl | hlt
 · exact absurd (e1.trans e2.symm) (hp i j h1 h2 hlt)
 · rfl
 · exact absurd (e2.trans e1.symm) (hp j i h2 h1 hlt)

theorem KL {M:Refs} (h:M.Pairwise fun x y=>x.id≠y.id) {x y:bw} (hx:x∈M) (hy:y∈M) (he:x.id=y.id):x=y:=by
 induction M with
 | nil=>simp at hx
 | cons z M ih=>
   have a:=List.pairwise_cons.1 h
   rcases List.mem_cons.1 hx with e1 | h1<;>rcases List.mem_cons.1 hy with e2 | h2
   · rw [e1,e2]
   · rw [e1] at he;exact absurd he (a.1 y h2)
   · rw [e2] at he;exact absurd he.symm (a.1 x h1)
   · exact ih a.2 h1 h2

theorem B7 {M:Refs} {j:Nat} {r:bw} (hj:M[j]?=some r):M=M.take j++r::M.drop (j+1)∧M.eraseIdx j=M.take j++M.drop (j+1):=by
 obtain ⟨hl,e⟩:=List.getElem?_eq_some_iff.1 hj
 refine ⟨?_,List.eraseIdx_eq_take_drop_succ ..⟩
 rw [←e,←List.drop_eq_getElem_cons hl,List.take_append_drop]

set_option maxHeartbeats 1000000 in
theorem FH (a:Option Addr) (n c:Nat) (ps:List Int) (h:fV w0 X w gi gm S N) (hr:RdZ w a n c ps) (hb:n≤1000000):
   Calls Tryz.prog 131 #[.pointer (some ⟨gi,0,none⟩),.slice a n c] w fun e w'=>e=.returned (.tuple #[])∧fV w [gi,gm] w' gi gm (aV S ps) []:=by
 have h0:=h
 replace h:=h.self
 obtain ⟨es,clock,M,hE,hM,hS⟩:=h
 apply qj
 have hg:w.heap[gm]?=some (.map es clock):=hS.holds 1 _ rfl
 have hit:St w [gi,gm] (w.alloc (.mapIter (some gm) clock #[] clock)) [.arr gi 272 [.map (some gm)],.blk gm (.map es clock),.blk w.heap.size (.mapIter (some gm) clock #[] clock)]:=hS.add (Chg.alloc _ _) (heap_alloc_new w _) (by simp [Res.fp])
 obtain ⟨gr,hgr⟩:∃gr,w.heap.size=gr:=⟨_,rfl⟩
 let keep:bw→Bool:=fun r=> !ps.contains r.pack
 let I:World→Prop:=fun w'=>∃es M seen,bF kyV vlV es clock M∧(M.filter keep).Perm (S.filter keep)∧(M.Pairwise fun x y=>x.id≠y.id)∧(∀p∈oD es M,seen.contains p.1.born=true→keep p.2=true)∧
   St w [gi,gm] w' [.arr gi 272 [.map (some gm)],.blk gm (.map es clock),.blk gr (.mapIter (some gm) clock seen clock)]
 let μ:World→Nat:=fun w'=>match w'.heap[gm]?,w'.heap[gr]? with
   | some (.map es _),some (.mapIter _ _ seen _)=>(leftOf es seen).size
   | _,_=>0
 refine ⟨_,hS.ldL (i:=0) (l:=[.map (some gm)]) rfl (mpA _) rfl rfl,_,_,run_range_map w 270 87 100 gm es clock IU hg,I,μ,⟨es,M, #[],hE,hM.perm.filter _,?_,by simp,by rw [hgr] at hit;exact hit⟩,?_⟩
 · have hnS:S.Pairwise fun x y=>x.id≠y.id:=hM.asc.imp fun h=>gu h
   exact hnS.perm hM.perm.symm fun h=>h.symm
 rw [hgr]
 clear hE hM hS hg hit
 rintro w2 ⟨es,M,seen,hE,hperm,hdist,hseen,h2⟩
 have hr2:w2.heap[gr]?=some (.mapIter (some gm) clock seen clock):=h2.holds 2 _ rfl
 have hg2:w2.heap[gm]?=some (.map es clock):=h2.holds 1 _ rfl
 have hmu:μ w2=(leftOf es seen).size:=by simp only [μ,hr2,hg2]
 rcases run_next_at (P:=Tryz.prog) w2 0 gr gm clock clock seen es clock hr2 hg2 hE.old (Nat.le_refl _) with ⟨hz,hrun⟩ | ⟨e,he,w3,hw3,hrun⟩
 · refine ⟨false,[],w2,hrun,fun h=>(by cases h),fun _=>⟨rfl,es,clock,M,hE,⟨?_,vD h0.asc ps⟩,h2.sub (List.Sublist.cons_cons _ (List.Sublist.cons_cons _ (List.nil_sublist _)))⟩⟩
   have hl0:rR es M seen=[]:=by
     have:=y6 hE seen
     have h0:(leftOf es seen).toList=[]:=List.eq_nil_of_length_eq_zero (by simpa using hz)
     rw [h0] at this
     exact List.map_eq_nil_iff.1 this
   have hall:M.filter keep=M:=by
     refine List.filter_eq_self.2 fun r hr=>?_
     rw [←wG hE] at hr
     obtain ⟨p,hp,rfl⟩:=List.mem_map.1 hr
     refine hseen p hp ?_
     cases hq:seen.contains p.1.born with
     | true=>rfl
     | false=>
       have:p∈rR es M seen:=List.mem_filter.2 ⟨hp,by rw [hq];rfl⟩
       rw [hl0] at this
       simp at this
   rw [hall] at hperm
   exact hperm
 · refine ⟨true,[e.key,e.val],_,hrun,fun _=>?_,fun h=>(by cases h)⟩
   obtain ⟨r,hrr⟩:=DT hE he
   have hmem:=(List.mem_filter.1 hrr).1
   obtain ⟨he1,hk,hv⟩:=FZ hE hmem
   have hrM:r∈M:=by
     have:=(List.mem_map (f:=fun p:MapEntry×bw=>p.2)).2 ⟨_,hmem,rfl⟩
     rw [wG hE] at this
     exact this
   have h3:St w [gi,gm] w3 [.arr gi 272 [.map (some gm)],.blk gm (.map es clock),.blk gr (.mapIter (some gm) clock seen clock)]:=by
     rcases hw3 with rfl | rfl
     · exact h2
     · exact h2.drew
   have h3':=St.uD h3 (i:=2) (o':=.mapIter (some gm) clock (seen.push e.born) clock) rfl
   have h3':St w [gi,gm] (w3.putObj gr (.mapIter (some gm) clock (seen.push e.born) clock)) [.arr gi 272 [.map (some gm)],.blk gm (.map es clock),.blk gr (.mapIter (some gm) clock (seen.push e.born) clock)]:=h3'
   have hent:=run_entry_at (P:=Tryz.prog) _ gr gm clock seen es clock e (h3'.holds 2 _ rfl) (h3'.holds 1 _ rfl) he1 hE.born
   have hk':e.key=.agg (bv r.id).toArray:=hk
   have hv':e.val=.agg (aF r).toArray:=hv
   rw [hk',hv'] at hent
   have hleft:=(Im hE.born he).length_eq
   simp only [List.length_cons,Array.length_toList] at hleft
   obtain ⟨g4,w5,r5,h5⟩:=h3'.aD idZ
   obtain ⟨g5,w6,r6,h6⟩:=h5.aD rfZ
   obtain ⟨w7,r7,h7⟩:=h6.stA (i:=3) (v:=bv r.id) rfl (zU _) (by simp) (by simp [r.idl]) (aO _)
   obtain ⟨w8,r8,h8⟩:=h7.stA (i:=4) (v:=aF r) rfl (rfS _) (aJ _) (aJ _) (dR r)
   have h8:St w [gi,gm] w8 [.arr gi 272 [.map (some gm)],.blk gm (.map es clock),.blk gr (.mapIter (some gm) clock (seen.push e.born) clock),.arr g4 87 (bv r.id),.arr g5 100 (aF r)]:=h8
   have hsub:∀ {A B C:Res} {L:List Res},[A,B,C].Sublist (A::B::C::L):=fun {A B C L} =>List.Sublist.cons_cons _ (List.Sublist.cons_cons _ (List.Sublist.cons_cons _ (List.nil_sublist _)))
   refine ⟨_,_,_,hent,g4,w5,r5,g5,w6,r6,w7,r7,w8,r8,_,(uG h8 (i:=4) rfl).1,(kr a n c ps r.pack w8 (h0.Oa hr h8.chg) (by omega)).mono ?_⟩
   rintro e9 w9 ⟨rfl,rfl⟩
   refine ⟨_,rfl,fun w'=>I w'∧μ w'<μ w2,⟨fun hin=>?_,fun hin=>?_⟩,fun _ h=>h⟩
   · have h8d:=h8.drew
     have hg8:w9.drew.heap[gm]?=some (.map es clock):=h8d.holds 1 _ rfl
     obtain ⟨es',rD,hD1,hD2⟩:=hE.delete (P:=Tryz.prog) (w:=w9.drew) (g:=gm) (MW M) IU hg8 r.idl #[270,87] rfl 0
     have hfnd:∃j,dN bw.id M r.id=some (j,r):=by
       cases hf:dN bw.id M r.id with
       | none=>exact absurd rfl (jV hf r hrM)
       | some p=>
         obtain ⟨j,y⟩:=p
         obtain ⟨hj,hy⟩:=eT hf
         have:=KL hdist (List.mem_of_getElem? hj) hrM hy
         subst this
         exact ⟨j,rfl⟩
     obtain ⟨j,hj⟩:=hfnd
     obtain ⟨hes',hE'⟩:=hD1 j r hj
     obtain ⟨hMj,_⟩:=eT hj
     obtain ⟨hsp,her⟩:=B7 hMj
     have hnk:keep r=false:=by simp only [keep,hin];rfl
     have h10:=St.uD h8d (i:=1) (o':=.map es' clock) rfl
     have h10:St w [gi,gm] (w9.drew.putObj gm (.map es' clock)) [.arr gi 272 [.map (some gm)],.blk gm (.map es' clock),.blk gr (.mapIter (some gm) clock (seen.push e.born) clock),.arr g4 87 (bv r.id),.arr g5 100 (aF r)]:=h10
     have hjl:j<es.size:=by have:=hE.len;have:=(List.getElem?_eq_some_iff.1 hMj).1;omega
     have hle:es'.toList=es.toList.eraseIdx j:=by rw [hes'];simp [Array.eraseIdxIfInBounds,hjl]
     have hzip:oD es' (M.eraseIdx j)=(oD es M).eraseIdx j:=by rw [oD,hle,rQ];rfl
     have hdist':=hdist
     rw [hsp] at hdist'
     have hp3:=List.pairwise_append.1 hdist'
     have hrn:r∉M.eraseIdx j:=by
       rw [her]
       intro hm
       rcases List.mem_append.1 hm with hm | hm
       · exact hp3.2.2 r hm r (by simp) rfl
       · exact (List.pairwise_cons.1 hp3.2.1).1 r hm rfl
     refine ⟨fun w'=>∃o L,St w [gi,gm] w' (.arr gi 272 [.map (some gm)]:: .blk gm o:: .blk gr (.mapIter (some gm) clock (seen.push e.born) clock):: .arr g4 87 (bv r.id)::L),⟨_,_,h8d⟩,.map (some gm),?_,(bv r.id).toArray,?_,_,_,rD,_,fun _ h=>h,⟨_,_,h10⟩,⟨es',M.eraseIdx j,seen.push e.born,hE',?_,?_,?_,h10.sub hsub⟩,?_⟩
     · rintro w' ⟨_,_,h'⟩
       exact h'.ldL (i:=0) (l:=[.map (some gm)]) rfl (mpA _) rfl rfl
     · rintro w' ⟨_,_,h'⟩
       exact h'.ldA (i:=3) (l:=bv r.id) rfl (Ea _) (zU _) (by simp [r.idl])
     · have:(M.eraseIdx j).filter keep=M.filter keep:=by
         rw [her]
         conv=>rhs;rw [hsp]
         rw [List.filter_append,List.filter_append,List.filter_cons,hnk]
         simp
       rw [this]
       exact hperm
     · exact hdist.sublist (List.eraseIdx_sublist _ _)
     · intro p hp hc
       have hp2:p.2∈M.eraseIdx j:=by
         have:=(List.mem_map (f:=fun p:MapEntry×bw=>p.2)).2 ⟨_,hp,rfl⟩
         rw [wG hE'] at this
         exact this
       rw [hzip] at hp
       have hp1:=(List.eraseIdx_sublist _ _).subset hp
       simp only [Array.contains_push,Bool.or_eq_true,beq_iff_eq] at hc
       have hb2:p.1.born≠e.born:=by
         intro hb2
         have hnd:=wS hE
         have:p=(e,r):=by
           obtain ⟨i1,h1⟩:=List.getElem?_of_mem hp1
           obtain ⟨i2,h2⟩:=List.getElem?_of_mem hmem
           have q1:((oD es M).map fun p=>p.1.born)[i1]?=some p.1.born:=by rw [List.getElem?_map,h1];rfl
           have q2:((oD es M).map fun p=>p.1.born)[i2]?=some e.born:=by rw [List.getElem?_map,h2];rfl
           rw [hb2] at q1
           have:i1=i2:=D7 hnd q1 q2
           subst this
           rw [h1] at h2
           exact Option.some.inj h2
         rw [this] at hp2
         exact hrn hp2
       rcases hc with hc | hc
       · first
           | exact absurd hc hb2
           | exact hseen p hp1 hc
       · first
           | exact hseen p hp1 hc
           | exact absurd hc hb2
     · have hgm':(w9.drew.putObj gm (.map es' clock)).heap[gm]?=some (.map es' clock):=h10.holds 1 _ rfl
       have hgr':(w9.drew.putObj gm (.map es' clock)).heap[gr]?=some (.mapIter (some gm) clock (seen.push e.born) clock):=h10.holds 2 _ rfl
       have e1:μ (w9.drew.putObj gm (.map es' clock))=(leftOf es' (seen.push e.born)).size:=by simp only [μ,hgm',hgr']
       rw [e1,hmu]
       have:(leftOf es' (seen.push e.born)).size≤(leftOf es (seen.push e.born)).size:=by
         rw [←Array.length_toList,←Array.length_toList,leftOf,leftOf,Array.toList_filter,Array.toList_filter,hle]
         exact ((List.eraseIdx_sublist es.toList j).filter _).length_le
       omega
   · have hk2:keep r=true:=by simp only [keep,hin];rfl
     refine ⟨⟨es,M,seen.push e.born,hE,hperm,hdist,fun p hp hc=>?_,h8.sub hsub⟩,?_⟩
     · by_cases hb2:p.1.born=e.born
       · have hnd:=wS hE
         have:p=(e,r):=by
           obtain ⟨i1,h1⟩:=List.getElem?_of_mem hp
           obtain ⟨i2,h2⟩:=List.getElem?_of_mem hmem
           have q1:((oD es M).map fun p=>p.1.born)[i1]?=some p.1.born:=by rw [List.getElem?_map,h1];rfl
           have q2:((oD es M).map fun p=>p.1.born)[i2]?=some e.born:=by rw [List.getElem?_map,h2];rfl
           rw [hb2] at q1
           have:i1=i2:=D7 hnd q1 q2
           subst this
           rw [h1] at h2
           exact Option.some.inj h2
         rw [this]
         exact hk2
       · simp only [Array.contains_push,Bool.or_eq_true,beq_iff_eq] at hc
         rcases hc with hc | hc
         · first
             | exact absurd hc hb2
             | exact hseen p hp hc
         · first
             | exact hseen p hp hc
             | exact absurd hc hb2
     · have hgm':w9.heap[gm]?=some (.map es clock):=h8.holds 1 _ rfl
       have hgr':w9.heap[gr]?=some (.mapIter (some gm) clock (seen.push e.born) clock):=h8.holds 2 _ rfl
       have e1:μ w9=(leftOf es (seen.push e.born)).size:=by simp only [μ,hgm',hgr']
       rw [e1,hmu]
       omega
end

end Go.Proofs.YtpmhjnhgpplmnaaGreatDoor
end

section
namespace Go.Proofs.YtpmhjnhgpplmnaaGreatDoor
open Go Sx
set_option maxRecDepth 8000

theorem Sx.St.stO {P:Program} {w0 w:World} {X:List Nat} {M:List Res} (h:St w0 X w M) {i g n o off:Nat} {l v:List Value} {T' T:TypeId} (hi:M[i]?=some (.arr g T' l)) (hS:(sizeOf T).run P w=.ok n w) (he:off=o) (hl:o+n≤l.length) (hv:v.length=n) (h1:∀u∈v,u.oneCell'=true):
   ∃w',(Instr.storeAt T (.pointer (some ⟨g,off,none⟩)) (.agg v.toArray)).run P w=.ok () w'∧St w0 X w' (M.set i (.arr g T' (l.take o++v++l.drop (o+n)))):=by
 subst he
 have hg:=h.holds i _ hi
 have hst:=run_storeCells_at P g off T' v 0 l.toArray w hg (by simp;omega) h1
 have hset:(l.toArray.toList.take (off+0)++v++l.toArray.toList.drop (off+0+v.length)).toArray=(l.take off++v++l.drop (off+n)).toArray:=by
   simp only [Nat.add_zero,hv]
 rw [hset] at hst
 refine ⟨_,?_,h.upd hi (w':=w.setRow g (l.take off++v++l.drop (off+n)).toArray) ⟨rfl,rfl,rfl,by simp,fun k _ hk=>setRow_other w g k _ (fun e=>hk (by simp [Res.fp,e]))⟩ (setRow_heap w g _ _ T' _ hg) (by simp [Res.fp])⟩
 simp [Instr.storeAt,Instr.sureAddr,storeVar,hS,Value.cells,hv,hst]

theorem vr {gd gi:Nat} {r:gx} (hk:r.K.length=96) (sa:Option Addr) (sc:Nat) (pa:Option Addr) (pc:Nat) (c:bH) (sa':Option Addr) (sc':Nat) (pa':Option Addr) (pc':Nat) (S':Refs):
   (fD gd gi r sa sc pa pc).take 98++bP c sa' c.snaps.length sc' pa' c.aq.length pc'++(fD gd gi r sa sc pa pc).drop 107=fD gd gi { r with C:=c,S:=S' } sa' sc' pa' pc':=by
 have e1:(fD gd gi r sa sc pa pc).take 98=pV gd::pV gi::bv r.K:=by
   show pV gd::pV gi::((bv r.K++_).take 96)=_
   rw [List.take_append_of_le_length (by simp [hk]),List.take_of_length_le (by simp [hk])]
 have e2:(fD gd gi r sa sc pa pc).drop 107=[.slice none 0 0,.bool r.dead]:=by
   have:=tV (gd:=gd) (gi:=gi) hk sa sc pa pc
   rw [show 107=98+9 from rfl,←List.drop_drop,this]
   rfl
 rw [e1,e2]
 unfold fD
 simp

theorem xF {num:Int} (hn:cQ num=true):∀ {xs:List Itm} {s:Nat},(∀x∈xs,x.1.length=32∧x.2.length≤16777216)→s+(xs.map dK).flatten.length≤1000000000→∀y∈aQ num s xs,iK y=true∧y.len≤67000000
 | [],_,_,_,y,hy=>by simp [aQ] at hy
 | x::r,s,hx,hb,y,hy=>by
   have hx0:=hx x (List.mem_cons_self ..)
   have hfl:x.2.length≤(dK x).length:=by rw [dK,ko];simp only [List.length_cons,List.length_append];omega
   have hgp:=dy.1 hn
   rw [List.map_cons,List.flatten_cons,List.length_append] at hb
   have hy:y=mkRef x.1 num (((s+(dK x).length:Nat):Int)- ((x.2.length:Nat):Int)) ((x.2.length:Nat):Int)∨y∈aQ num (s+(dK x).length) r:=by simpa [aQ] using hy
   rcases hy with rfl | hy
   · obtain ⟨_,e2,e3,e4⟩:=Du (id:=x.1) (p:=num) (q:=((s+(dK x).length:Nat):Int)- ((x.2.length:Nat):Int)) (n:=((x.2.length:Nat):Int)) hx0.1 ⟨by omega,by omega⟩ ⟨by omega,by omega⟩ ⟨by omega,by omega⟩
     refine ⟨?_,by rw [e4];omega⟩
     unfold iK
     rw [e2,e3,e4]
     simp only [Bool.and_eq_true,decide_eq_true_eq]
     omega
   · exact xF hn (fun z hz=>hx z (List.mem_cons_of_mem _ hz)) (by omega) y hy

theorem CG (f:Value) (w:World):Calls Tryz.prog 133 #[.slice none 0 0,f] w fun e w'=>e=.returned (.slice none 0 0)∧w'=w:=by
 apply jw
 have key:Calls Tryz.prog 166 #[.slice none 0 0,f] w fun e w'=>e=.returned (.int .i64 (-1))∧w'=w:=by
   apply jD
   refine ⟨fun x w'=>x=0∧w'=w,fun _ _=>0,⟨rfl,rfl⟩,?_⟩
   rintro x w1 ⟨rfl,rfl⟩
   exact ⟨fun h=>by simp at h,fun _=>⟨rfl,rfl⟩⟩
 refine key.mono ?_
 rintro e w1 ⟨rfl,rfl⟩
 exact ⟨_,rfl,fun _=>⟨rfl,rfl⟩,fun h=>by simp at h⟩

end Go.Proofs.YtpmhjnhgpplmnaaGreatDoor
end

section
namespace Go.Proofs.YtpmhjnhgpplmnaaGreatDoor
open Go Sx Gf2
set_option maxRecDepth 8000

def CF:Nat→Nat→Nat→Nat
 | 0,_,_=>0
 | k+1,a,b=>(if b%2=1 then a else 0)^^^(2*CF k a (b / 2))
theorem C6:∀(k a b:Nat),b<2^k→CF k a b=Gf2.aG a b
 | 0, a, b, h => by obtain rfl : b = 0 := by omega
                    simp [CF]
 | k+1,a,b,h=>by rw [bX,CF,C6 k a (b / 2) (by rw [Nat.pow_succ] at h;omega)]
def L3:Bool:=(List.range 32).all fun b=>b<2||(List.range 256).all fun a=>CF 5 a b != 283
theorem FY:L3=true:=by kernel_rfl
theorem MZ:Irr 283:=by
 have hno:∀a b,2≤b→b<32→a<256→Gf2.aG a b≠283:=fun a b h2 h32 ha h=>by
   have h1:=FY
   unfold L3 at h1
   rw [List.all_eq_true] at h1
   have h3:=h1 b (List.mem_range.2 h32)
   have hb:decide (b<2)=false:=by simp;omega
   rw [hb,Bool.false_or,List.all_eq_true] at h3
   have h4:=h3 a (List.mem_range.2 ha)
   rw [C6 5 a b h32,h] at h4
   simp at h4
 refine ⟨by decide,fun a b h=>?_⟩
 have ha0:a≠0:=by rintro rfl;simp at h
 have hb0:b≠0:=by rintro rfl;simp at h
 have da:=Gf2.aS ha0
 have db:=Gf2.aS hb0
 have d2:=bk.aG da _ b db
 rw [←h] at d2
 have d3:Gf2.bk 283 8:=⟨by decide,by decide⟩
 have hs:=d2.uniq d3
 by_cases h1:a=1
 · exact .inl h1
 by_cases h2:b=1
 · exact .inr h2
 exfalso
 have p1:a<256:=Nat.lt_of_not_le fun hl=>by
   have:8≤a.log2:=(Nat.le_log2 ha0).2 (by simpa using hl)
   have hb1:b.log2=0:=by omega
   have:=db.2
   rw [hb1] at this
   omega
 have p2:b<256:=Nat.lt_of_not_le fun hl=>by
   have:8≤b.log2:=(Nat.le_log2 hb0).2 (by simpa using hl)
   have ha1:a.log2=0:=by omega
   have:=da.2
   rw [ha1] at this
   omega
 by_cases hb4:b<32
 · exact hno a b (by omega) hb4 p1 h.symm
 · have hb5:5≤b.log2:=(Nat.le_log2 hb0).2 (by simpa using hb4)
   have ha4:a<32:=Nat.lt_of_not_le fun hl=>by
     have:5≤a.log2:=(Nat.le_log2 ha0).2 (by simpa using hl)
     omega
   exact hno b a (by omega) ha4 p2 (by rw [Gf2.ey];exact h.symm)
def dm:iS:=⟨283,1,1,4,8⟩
theorem Et:bO dm=true:=by
 have h1:mB 283=8:=kS (d:=8) ⟨by decide,by decide⟩
 have h2:Hg 283=true:=(D4 283).2 MZ
 simp [bO,gd1,gd2,gd3,gd4,dm,h1,h2]
def q1 (s:Int):ah:=⟨s,[⟨[],0⟩],[⟨[116],0⟩],[],[⟨some 0,[],[116]⟩],1,false,none,[]⟩
def q2 (s:Int) (b:List UInt8):ah:=⟨s,[⟨b,0⟩],[⟨[116],0⟩],[],[⟨some 0,[],[116]⟩],2,false,none,[]⟩
def q3 (s:Int) (b:List UInt8):ah:=⟨s,[⟨b,b.length⟩],[⟨[116],0⟩],[],[⟨some 0,[],[116]⟩],3,false,none,[]⟩
def q4 (s:Int) (b:List UInt8):ah:=⟨s,[⟨b,b.length⟩],[⟨[116],0⟩],[⟨[116],0⟩],[],4,false,none,[]⟩
def q5 (s:Int) (b:List UInt8):ah:=⟨s,[⟨b,b.length⟩],[⟨[99,49],0⟩],[⟨[116],0⟩],[⟨none,[116],[99,49]⟩],5,false,none,[]⟩
def q6 (s:Int) (b:List UInt8):ah:=⟨s,[⟨b,b.length⟩],[⟨[99,49],0⟩],[⟨[99,49],0⟩],[],6,false,none,[]⟩
end Go.Proofs.YtpmhjnhgpplmnaaGreatDoor
end

section
namespace Go.Proofs.YtpmhjnhgpplmnaaGreatDoor
open Go Sx
set_option maxRecDepth 8000

theorem GD {next:Int} :∀ {l:List PkD} {last:Int},iR next last l=true→∀p∈l,last<p.num∧p.num<next∧0≤p.size∧0≤p.count
 | [],_,_,p,hp=>by cases hp
 | q::l,last,h,p,hp=>by
   simp only [iR,Bool.and_eq_true,decide_eq_true_eq] at h
   rcases List.mem_cons.1 hp with rfl | hp
   · exact ⟨h.1.1,h.1.2.1,h.1.2.2.1,h.1.2.2.2⟩
   · have:=GD h.2 p hp
     exact ⟨by omega,this.2⟩
structure OP (C:bH):Prop where
 poly:C.set.poly<18446744073709551616
 snaps:∀s∈C.snaps,s.size≤9223372036854775807
 aq:∀p∈C.aq,p.size≤9223372036854775807∧p.count≤9223372036854775807
theorem lV {C:bH} (h:aI C=true) (hi:OP C):gB C:=by
 simp only [aI,jA,Bool.and_eq_true,decide_eq_true_eq,List.all_eq_true] at h
 obtain ⟨⟨⟨g1,g2,n1,n2⟩,hs,l1,l2⟩,hsn,_,hpk⟩:=h
 refine ⟨⟨by omega,by omega⟩,⟨by omega,by omega⟩,hi.poly,K0 hs,l1,l2,fun s hm=>?_,fun p hm=>?_⟩
 · have h1:=Bi.1 (hsn s hm)
   have h2:=hi.snaps s hm
   exact ⟨FE h1.1,⟨by omega,by omega⟩,⟨h1.2.2.1,h2⟩,⟨h1.2.2.2.1,by omega⟩⟩
 · have h1:=GD hpk p hm
   have h2:=hi.aq p hm
   exact ⟨⟨by omega,by omega⟩,⟨h1.2.2.1,h2.1⟩,⟨h1.2.2.2,h2.2⟩⟩

end Go.Proofs.YtpmhjnhgpplmnaaGreatDoor
end

section
namespace Go.Proofs.YtpmhjnhgpplmnaaGreatDoor
open Go Sx
set_option maxRecDepth 8000

noncomputable def cB (r:gx) (m:ah) (ls:List (List UInt8)) (snaps:List cU) (drop:List Int):(ah×Option Int)×gx:=match kj r m with
 | some e=>((m,some e),r)
 | none=>match iH r.C snaps drop (decide (0<(aH r.K r.S drop ls).length)) with
   | some e=>((m,some e),r)
   | none=>match (bg r.K (bR r.C snaps drop (decide (0<(aH r.K r.S drop ls).length))) (bt drop r.C.aq) r.C.next (aH r.K r.S drop ls) m).1.2 with
     | some e=>(((dP r (bg r.K (bR r.C snaps drop (decide (0<(aH r.K r.S drop ls).length))) (bt drop r.C.aq) r.C.next (aH r.K r.S drop ls) m).1.1 e (decide (0<(aH r.K r.S drop ls).length))).1,some e),
         (dP r (bg r.K (bR r.C snaps drop (decide (0<(aH r.K r.S drop ls).length))) (bt drop r.C.aq) r.C.next (aH r.K r.S drop ls) m).1.1 e (decide (0<(aH r.K r.S drop ls).length))).2)
     | none=>((dW (aW 99 r.C.gen::(cr drop r.C.aq).map fun p=>aA p.num) (bg r.K (bR r.C snaps drop (decide (0<(aH r.K r.S drop ls).length))) (bt drop r.C.aq) r.C.next (aH r.K r.S drop ls) m).1.1,none),
         { r with C:=(bg r.K (bR r.C snaps drop (decide (0<(aH r.K r.S drop ls).length))) (bt drop r.C.aq) r.C.next (aH r.K r.S drop ls) m).2.1,S:=gE (aV r.S drop) (bg r.K (bR r.C snaps drop (decide (0<(aH r.K r.S drop ls).length))) (bt drop r.C.aq) r.C.next (aH r.K r.S drop ls) m).2.2 })

theorem ID {S:Refs} (h:Asc S) {r x:bw} (hx:x∈qy S r):x=r∨x∈S:=by
 obtain ⟨A,B,e,hS,_⟩:=nP h r
 rw [e] at hx
 rcases List.mem_append.1 hx with hx | hx
 · rcases hS with rfl | ⟨y,_,rfl⟩
   · exact .inr (List.mem_append_left _ hx)
   · exact .inr (List.mem_append_left _ hx)
 · rcases List.mem_cons.1 hx with rfl | hx
   · exact .inl rfl
   · rcases hS with rfl | ⟨y,_,rfl⟩
     · exact .inr (List.mem_append_right _ hx)
     · exact .inr (List.mem_append_right _ (List.mem_cons_of_mem _ hx))
theorem CI:∀ {l S:Refs},Asc S→∀ {x:bw},x∈gE S l→x∈l∨x∈S
 | [],_,_,_,hx=>.inr hx
 | r::l,S,h,x,hx=>by
   rcases CI (l:=l) (sL h r) hx with h1 | h1
   · exact .inl (List.mem_cons_of_mem _ h1)
   · rcases ID h h1 with rfl | h1
     · exact .inl (List.mem_cons_self ..)
     · exact .inr h1

theorem mm {α:Type} {l:List α} {i:Nat} {v:α} (h:l[i]?=some v):l.set i v=l:=by
 obtain ⟨hi,e⟩:=List.getElem?_eq_some_iff.1 h
 rw [←e];simp

section
variable {w0 w w':World} {N T L:List Res} {gd gr:Nat} {ps:List Nat} {m:ah} {r:gx} {q:uJ} {B:Res}

theorem aj.fr (h:aj w0 [] w gd ps m ((N++T)++L)):aj w0 [] w gd ps m ((L++N)++T):=h.vB (by rw [List.append_assoc L];exact List.perm_append_comm)
theorem aj.fr1 (h:aj w0 [] w gd ps m (((B::N)++T)++L)):aj w0 [] w gd ps m ((B::(L++N))++T):=by
 have p:((N++T)++L).Perm ((L++N)++T):=by rw [List.append_assoc L];exact List.perm_append_comm
 exact h.vB (List.Perm.cons _ p)
theorem fr4 (A:List Res) (s p g c:Res):(A++ [s,p,g,c]).Perm (g::(A++ [c,s,p])):=by
 have h1:([s,p]++ [g,c]:List Res).Perm ([g,c]++ [s,p]):=List.perm_append_comm
 exact (List.Perm.append_left A h1).trans List.perm_middle

theorem Nw (X S N G:List Res):((X++(S++N))++G).Perm (N++(G++(S++X))):=by
 have h1:((X++(S++N))++G).Perm ((N++(S++X))++G):=by
   refine List.Perm.append_right G ?_
   have h2:(X++(S++N)).Perm ((S++N)++X):=List.perm_append_comm
   refine h2.trans ?_
   have h3:((S++N)++X).Perm ((N++S)++X):=List.Perm.append_right X List.perm_append_comm
   rw [List.append_assoc N] at h3
   exact h3
 refine h1.trans ?_
 rw [List.append_assoc]
 exact List.Perm.append_left N List.perm_append_comm
theorem vT {K:List UInt8} {c:bH} {m:ah} (h:(aX K c m).2=none):aI c=true:=by
 cases hc:aI c with
 | true=>rfl
 | false=>rw [aX,hc] at h;simp at h

theorem ROk.at_ (ok:ROk r q) (l:List Nat):ROk r { q with ps:=l } :=⟨ok.KY,ok.D6,ok.kl,ok.poly,ok.chk,ok.cok,ok.names,ok.sn,ok.pn,ok.good⟩

theorem J8 (n:Nm) (e:Int) (m:ah):Cnt 2 m (jX n e m).1:=by
 have h1:=rz m n
 have h2:=kZ (aM m n).1
 unfold jX
 split
 · exact h1.mono (by decide)
 · split<;>exact h1.trans h2
theorem LJ (n:Nm) (m:ah):Cnt 3 m (Cs n m).1:=by
 have h1:=kZ m
 unfold Cs
 split
 · exact h1.mono (by decide)
 · split
   · exact h1.mono (by decide)
   · exact h1.trans (J8 _ _ _)
theorem GJ (b:List UInt8) (n:Nm):∀(k:Nat) (m:ah),Cnt (k+3) m (wu b n k m).1
 | 0,m=>LJ n m
 | k+1,m=>by
   have h:=Am b n (4-k) m
   unfold wu aR
   split
   · exact h.mono (by omega)
   · exact (h.trans (GJ b n k _)).mono (by omega)
theorem qV (K:List UInt8) (c:bH) (m:ah):Cnt 20 m (aX K c m).1:=by
 have h:=me tN m
 unfold aX
 split
 · unfold aR
   split
   · exact h.mono (by decide)
   · exact (h.trans (GJ _ _ 5 _)).mono (by decide)
 · exact (Cnt.refl m).mono (by decide)
theorem y8 (K:List UInt8) (c:bH) (Q:List PkD) (num:Int) (xs:List Itm) (m:ah) (hx:xs.length≤4096):Cnt 5000 m (bg K c Q num xs m).1.1:=by
 unfold bg
 split
 · exact (qV K c m).mono (by decide)
 have h1:=me (aA num) m
 obtain ⟨m1,hm1⟩:∃m1,(aZ (aA num) m).1=m1:=⟨_,rfl⟩
 rw [hm1] at h1 ⊢
 have h2:Cnt 4200 m1 (svA K num xs m1).1:=by
   have:=z7 K num xs m1
   exact ⟨by have:=this.1;omega,by have:=this.2.1;omega⟩
 split
 · exact h1.mono (by decide)
 · split
   · exact (h1.trans h2).mono (by decide)
   · exact ((h1.trans h2).trans (qV K _ _)).mono (by decide)

theorem HT {K:List UInt8} {c:bH} {Q:List PkD} {num:Int} {xs:List Itm} {m:ah} (h:(bg K c Q num xs m).1.2=none):aI (bg K c Q num xs m).2.1=true∧
   ((xs=[]∧(bg K c Q num xs m).2=(c,[]))∨(xs≠ []∧(bg K c Q num xs m).2=(fO c Q ⟨num,((bf K num xs).length:Int),(xs.length:Int)⟩,aQ num 16 xs))):=by
 unfold bg at h ⊢
 split at h
 · rename_i hx
   rw [if_pos hx]
   exact ⟨vT h,.inl ⟨hx,rfl⟩⟩
 · rename_i hx
   rw [if_neg hx]
   split at h
   · simp at h
   · rename_i h1
     try rw [h1]
     try simp only
     split at h
     · simp at h
     · rename_i h2
       try rw [h2]
       exact ⟨vT h,.inr ⟨hx,rfl⟩⟩
theorem tX:∀ {l:List PkD} {next last:Int},iR next last l=true→∀p∈l,last<p.num∧p.num<next
 | [],_,_,_,p,hp=>by cases hp
 | x::l,next,last,h,p,hp=>by
   simp only [iR,Bool.and_eq_true,decide_eq_true_eq] at h
   rcases List.mem_cons.1 hp with rfl | hp
   · exact ⟨h.1.1,h.1.2.1⟩
   · have:=tX h.2 p hp
     exact ⟨by omega,this.2⟩
theorem Fi {C:bH} (h:aI C=true) {p:PkD} (hp:p∈C.aq):cQ p.num=true:=by
 have hb:=bh h
 unfold aI at h
 simp only [Bool.and_eq_true] at h
 have:=tX h.2.2.2 p hp
 exact dy.2 ⟨by omega,by omega⟩

set_option maxHeartbeats 8000000 in
theorem mD (a1:Option Addr) (n1 c1:Nat) (vs:List Value) (ls:List (List UInt8)) (a2:Option Addr) (n2 c2:Nat) (snaps:List cU) (a3:Option Addr) (n3 c3:Nat) (drop:List Int)
   (h:yJ w0 w gd gr m r N) (hK:cI w0) (hT:iE w0) (hra:Rd w a1 n1 c1 1 vs) (hrb:cH w vs ls) (hls:∀l∈ls,l.length≤67000000) (hn1:n1≤1000000) (hsn:RdS w a2 n2 c2 snaps) (hsl:∀s∈snaps,s.name.length≤4611686018427387904) (hsi:∀s∈snaps,s.size≤9223372036854775807) (hn2:n2≤1000000)
   (hrz:∀w',St w0 [] w' N→RdZ w' a3 n3 c3 drop) (hn3:n3≤1000000) (hs:bY (aH r.K r.S drop ls)) (hb1:m.steps≤800000) (hb2:m.chs.length≤800000000):
   Calls Tryz.prog 49 #[pV gr,.slice a1 n1 c1,.slice a2 n2 c2,.slice a3 n3 c3] w fun e w'=>e=.returned (bG (cB r m ls snaps drop).1.2)∧yJ w0 w' gd gr (cB r m ls snaps drop).1.1 (cB r m ls snaps drop).2 N:=by
 obtain ⟨mI,hI⟩:=eI
 obtain ⟨q,ok,h⟩:=h
 have hbd:=bh ok.chk
 apply qX
 obtain ⟨g7,w1,r1,k1⟩:=(St.start w).box (P:=Tryz.prog) 29 (.slice a3 n3 c3)
 have k1:St w [] w1 [.arr g7 29 [.slice a3 n3 c3]]:=k1
 obtain ⟨B,hB⟩:∃B:Res,Res.arr g7 29 [.slice a3 n3 c3]=B:=⟨_,rfl⟩
 have h1:aj w0 [] w1 gd q.ps m ((B::N)++q.T gd gr r):=by
   have:=(h.cR k1).fr
   rw [hB] at this
   exact this
 have ldB:∀ {w':World} {M:List Res},St w0 [] w' (B::M)→(Instr.loadAt 29 (.pointer (some ⟨g7,0,none⟩))).run Tryz.prog w'=.ok (.slice a3 n3 c3) w':=fun h'=>ldQ (i:=0) h' (by rw [←hB];rfl) (Ja _)
 refine ⟨g7,w1,r1,(vo ok h1).mono ?_⟩
 rintro e w2 ⟨rfl,rfl⟩
 have sub1:∀ {w':World} {ps m' r'} {L:List Res},aj w0 [] w' gd ps m' ((B::(L++N))++q.T gd gr r')→aj w0 [] w' gd ps m' (N++q.T gd gr r'):=fun h'=>h'.tQ (List.Sublist.cons _ (List.Sublist.append_right (List.sublist_append_right _ _) _))
 refine ⟨_,rfl,_,az hI _ _ _,fun hbad=>?_,fun hgood=>?_⟩
 · obtain ⟨y,hy⟩:=Option.isSome_iff_exists.1 hbad
   have e1:cB r m ls snaps drop=((m,some y),r):=by unfold cB;rw [hy]
   rw [e1,hy]
   exact ⟨rfl,q,ok,sub1 (L:=[]) h1⟩
 have hrd:kj r m=none:=by simpa using hgood
 refine ⟨_,_,_,ldB h1.rest,(FW a1 n1 c1 vs ls a3 n3 c3 drop ok h1 hK (hra.au k1.chg) (hrb.au k1.chg) (hrz _ (sub1 (L:=[]) h1).cut.rest) hn1 hn3 hls).mono ?_⟩
 rintro e w3 ⟨a,c0,O,rfl,hO,f3⟩
 have h3:=(h1.cR f3).fr1
 obtain ⟨xs,hxs⟩:∃xs,aH r.K r.S drop ls=xs:=⟨_,rfl⟩
 have hOl:O.length=xs.length:=by rw [←hxs,←hO,List.length_map]
 obtain ⟨grows,hgr⟩:∃b,decide (0<xs.length)=b:=⟨_,rfl⟩
 have hgr':decide ((O.length:Int)>0)=grows:=by rw [←hgr,hOl];simp
 refine ⟨_,_,_,rfl,?_⟩
 try dsimp only
 rw [hgr']
 refine ⟨_,_,_,ldB h3.rest,(Hf a2 n2 c2 snaps a3 n3 c3 drop grows ok h3 (hsn.au (k1.chg.trans f3.chg)) hsl (hrz _ (sub1 h3).cut.rest) hn2 hn3).mono ?_⟩
 rintro e w4 ⟨cs,ga,gn,gc,rfl,hcl,hc1,c4,hok⟩
 obtain ⟨g11,w5,r5,k5⟩:=(St.start w4).aD B4
 have k5:St w4 [] w5 [.arr g11 47 jK]:=k5
 obtain ⟨w6,r6,k6⟩:=k5.stA (i:=0) (v:=cs) rfl (fT _) rfl hcl hc1
 have k6:St w4 [] w6 [.arr g11 47 cs]:=k6
 refine ⟨_,_,_,_,_,rfl,g11,w5,r5,w6,r6,_,az hI _ _ _,fun hbad=>?_,fun hgood2=>?_⟩
 · obtain ⟨y,hy⟩:=Option.isSome_iff_exists.1 hbad
   have e1:cB r m ls snaps drop=((m,some y),r):=by unfold cB;rw [hrd,hxs,hgr];simp only;rw [hy]
   rw [e1,hy]
   exact ⟨rfl,q,ok,sub1 (h3.same (c4.trans k6.chg))⟩
 have hnx:iH r.C snaps drop grows=none:=by simpa using hgood2
 obtain ⟨sa,sc,pa,pc,rfl,rfl,f4⟩:=hok hnx
 obtain ⟨c,hc⟩:∃c,bR r.C snaps drop grows=c:=⟨_,rfl⟩
 rw [hc] at f4 k6
 obtain ⟨Gn,hGn⟩:∃Gn:Res,Res.row 91 3 (.slice ga (cr drop r.C.aq).length gc) (cr drop r.C.aq).length ((cr drop r.C.aq).flatMap pkC)=Gn:=⟨_,rfl⟩
 rw [hGn] at f4
 obtain ⟨N2,hN2⟩:∃N2:List Res,(Res.row 303 33 (.slice a O.length c0) O.length (O.flatMap itC)::O.map vu)++N=N2:=⟨_,rfl⟩
 rw [hN2] at h3
 have h6:aj w0 [] w6 gd q.ps m (((B::Gn::N2)++q.T gd gr r)++nC g11 c sa sc pa pc):=by
   have h5:=(h3.cR f4).cR k6
   refine h5.vB ?_
   rw [List.append_assoc]
   exact List.Perm.cons _ (fr4 (N2++q.T gd gr r) _ _ _ _)
 have hgp:cQ r.C.next=true:=dy.2 ⟨hbd.2.1.1,hbd.2.1.2⟩
 have hds:c.set=r.C.set:=by rw [←hc];rfl
 have hdn:c.snaps=snaps:=by rw [←hc];rfl
 have hdp:c.aq=bt drop r.C.aq++if grows then [⟨r.C.next,0,0⟩] else []:=by rw [←hc];rfl
 have hkp:∀p∈bt drop r.C.aq,p.size≤9223372036854775807∧p.count≤9223372036854775807:=fun p hp=>by
   have:=ok.cok.aq p (List.mem_filter.1 hp).1
   exact ⟨this.2.1.2,this.2.2.2⟩
 have hpl:c.aq.length≤1025:=by
   have:=uV drop r.C.aq
   have:=hbd.2.2.2
   rw [hdp,List.length_append]
   split<;>simp<;>omega
 have hxO:O.map ItD.t=xs:=by rw [hO,hxs]
 have hbl:(bf r.K r.C.next xs).length≤90000000∧xs.length≤4096:=by
   rw [hxs] at hs
   exact ⟨uy _ _ hs,hs.num⟩
 have hcok:aI (fO c (bt drop r.C.aq) ⟨r.C.next,((bf r.K r.C.next (O.map ItD.t)).length:Int),((O.map ItD.t).length:Int)⟩)=true→gB (fO c (bt drop r.C.aq) ⟨r.C.next,((bf r.K r.C.next (O.map ItD.t)).length:Int),((O.map ItD.t).length:Int)⟩):=fun hck=>by
   refine lV hck ⟨by show c.set.poly<_;rw [hds];exact ok.poly,by show ∀s∈c.snaps,_;rw [hdn];exact hsi,fun p' hp'=>?_⟩
   rcases List.mem_append.1 hp' with hp' | hp'
   · exact hkp p' hp'
   · rw [List.mem_singleton.1 hp',hxO]
     exact ⟨by show ((bf r.K r.C.next xs).length:Int)≤_;omega,by show (xs.length:Int)≤_;omega⟩
 have hco:aI c=true→gB c:=fun hck=>by
   refine lV hck ⟨by rw [hds];exact ok.poly,by rw [hdn];exact hsi,fun p' hp'=>?_⟩
   rw [hdp] at hp'
   rcases List.mem_append.1 hp' with hp' | hp'
   · exact hkp p' hp'
   · cases grows with
     | false=>simp at hp'
     | true=>
       rw [if_pos rfl] at hp'
       rw [List.mem_singleton.1 hp']
       exact ⟨by show (0:Int)≤_;omega,by show (0:Int)≤_;omega⟩
 have hlast:O≠ []→c.aq=bt drop r.C.aq++ [⟨r.C.next,0,0⟩]∧cQ r.C.next=true:=fun hne=>by
   have:grows=true:=by
     rw [←hgr']
     have:0<O.length:=List.length_pos_iff.2 hne
     simp;omega
   rw [hdp,this]
   exact ⟨rfl,hgp⟩
 have hit:∀w',St w0 [] w' (B::Gn::N2)→ItR w' a O.length c0 O:=fun w' k=>by
   rw [←hN2] at k
   refine ⟨⟨k.rd (i:=2) rfl,fun x _=>wI x⟩,fun x hx=>?_⟩
   obtain ⟨j,hj⟩:=List.getElem?_of_mem hx
   refine k.rd (e:=5) (i:=j+3) ?_
   show ((O.map vu)++N)[j]?=_
   have hjl:=(List.getElem?_eq_some_iff.1 hj).1
   rw [List.getElem?_append_left (by simpa using hjl),List.getElem?_map,hj]
   rfl
 refine (Ei c (bt drop r.C.aq) r.C.next sa sc pa pc O a c0 ok h6 hK hT hlast hit (by rw [hxO,←hxs];exact hs) (by rw [hds];exact ok.poly) (by rw [hdn];exact hsl) hcok hco (by omega) (by omega) (by omega)).mono ?_
 rintro e w7 ⟨ra,rc,ps7,rfl,hA,hBs⟩
 rw [hxO] at hA hBs ⊢
 obtain ⟨W,hW⟩:∃W,bg r.K c (bt drop r.C.aq) r.C.next xs m=W:=⟨_,rfl⟩
 have hap:cB r m ls snaps drop=(match W.1.2 with
     | some e=>(((dP r W.1.1 e grows).1,some e),(dP r W.1.1 e grows).2)
     | none=>((dW (aW 99 r.C.gen::(cr drop r.C.aq).map fun p=>aA p.num) W.1.1,none), { r with C:=W.2.1,S:=gE (aV r.S drop) W.2.2 })):=by
   unfold cB
   rw [hrd,hxs,hgr]
   simp only
   rw [hnx,hc,hW]
 have hcnt:Cnt 5000 m W.1.1:=by rw [←hW];exact y8 _ _ _ _ _ _ (by rw [←hxs];exact hs.num)
 rw [hW] at hA hBs ⊢
 refine ⟨_,_,_,_,rfl,_,az hI _ _ _,fun hbad=>?_,fun hgood3=>?_⟩
 · obtain ⟨y,hy⟩:=Option.isSome_iff_exists.1 hbad
   rw [hy]
   refine (DE y grows (ok.at_ ps7) hA hT (fun _=>hgp) ⟨by have:=hcnt.1;omega,by have:=hcnt.2;omega⟩).mono ?_
   rintro e w8 ⟨rfl,h8⟩
   refine ⟨_,rfl,?_⟩
   rw [hap,hy]
   refine ⟨rfl, { q with ps:=ps7 },?_,?_⟩
   · show ROk (dP r W.1.1 y grows).2 _
     unfold dP
     split
     · exact (ok.at_ ps7).die
     · exact ok.at_ ps7
   · exact h8.tQ (List.Sublist.append_right (List.Sublist.cons _ (List.Sublist.cons _ (by rw [←hN2];exact List.sublist_append_right _ _))) _)
 have hw2:W.1.2=none:=by simpa using hgood3
 have h7:=hBs hw2
 obtain ⟨hck,hW2⟩:=HT (by rw [hW];exact hw2)
 rw [hW] at hck hW2
 obtain ⟨⟨m7,o7⟩,c',rs⟩:=W
 simp only at hw2 hck hW2 h7 hap hcnt
 subst hw2
 have hc's:c'.set=r.C.set∧c'.snaps=snaps∧gB c':=by
   rcases hW2 with ⟨_,e⟩ | ⟨_,e⟩
   · obtain ⟨rfl,_⟩:=Prod.mk.inj e
     exact ⟨hds,hdn,hco hck⟩
   · obtain ⟨rfl,_⟩:=Prod.mk.inj e
     refine ⟨hds,hdn,?_⟩
     rw [←hxO] at hck ⊢
     exact hcok hck
 have hrs:∀y∈rs,iK y=true∧y.len≤67000000:=by
   rcases hW2 with ⟨_,e⟩ | ⟨_,e⟩
   · obtain ⟨_,rfl⟩:=Prod.mk.inj e
     simp
   · obtain ⟨_,rfl⟩:=Prod.mk.inj e
     rw [hxs] at hs
     exact xF hgp (fun x hx=>⟨hs.idl x hx,hs.iD hx⟩) (by have:=hs.bytes;omega)
 have hrl:rs.length≤4096:=by
   rcases hW2 with ⟨_,e⟩ | ⟨_,e⟩
   · obtain ⟨_,rfl⟩:=Prod.mk.inj e
     simp
   · obtain ⟨_,rfl⟩:=Prod.mk.inj e
     rw [fo];exact hbl.2
 obtain ⟨r1,hr1⟩:∃r1:gx, { r with C:=c',S:=gE (aV r.S drop) rs } =r1:=⟨_,rfl⟩
 have hap:cB r m ls snaps drop=((dW (aW 99 r.C.gen::(cr drop r.C.aq).map fun p=>aA p.num) m7,none),r1):=by rw [hap,←hr1]
 rw [hap]
 have hgg:=Ck ok.chk
 have hname:=nk r.C.gen (by omega) w7 (hT.au h7.chg)
 rw [hgg,if_pos rfl] at hname
 obtain ⟨nm,hnm⟩:∃nm,aW 99 r.C.gen=nm:=⟨_,rfl⟩
 rw [hnm] at hname ⊢
 refine ⟨_,h7.cut.top.ldL (i:=0) (o:=98) rfl (jv _) rfl (rO ok.kl q.sa q.sc q.pa q.pc 0),hname.mono ?_⟩
 rintro e w9 ⟨rfl,c9⟩
 have h9:=h7.same c9
 obtain ⟨L,hL⟩:∃L,nC g11 c' sa sc pa pc++ [oM ra rc rs]=L:=⟨_,rfl⟩
 have h9f:=h9.fr
 obtain ⟨w10,r10,k10⟩:=h9f.top.self.stO (i:=0) (o:=98) (off:=0+98) (n:=9) (v:=bP c' sa c'.snaps.length sc pa c'.aq.length pc) rfl (fT _) rfl (by rw [tr ok.kl];decide) rfl (mq _ _ _ _ _ _ _)
 rw [vr ok.kl q.sa q.sc q.pa q.pc c' sa sc pa pc (gE (aV r.S drop) rs),hr1] at k10
 obtain ⟨A3,hA3⟩:∃A3:List Res,[.arr gr 145 (fD gd q.gi r1 sa sc pa pc),lC r.C q.sa q.sc,kX r.C q.pa q.pc]=A3:=⟨_,rfl⟩
 have k10:St w9 (ij (q.T gd gr r)) w10 (A3++ixR q.gi q.gm q.es q.ck):=by rw [←hA3];exact k10
 have h10:=h9f.qw k10
 rw [hL,←List.append_assoc] at h10
 obtain ⟨Z,hZ⟩:∃Z,(L++(B::Gn::N2))++A3=Z:=⟨_,rfl⟩
 rw [hZ] at h10
 have zB:Z[4]?=some B:=by rw [←hZ,←hL];rfl
 have zG:Z[5]?=some Gn:=by rw [←hZ,←hL];rfl
 have zR:Z[3]?=some (oM ra rc rs):=by rw [←hZ,←hL];rfl
 have subA:∀ {w':World} {M:List Res},St w0 [] w' (Z++M)→St w0 [] w' A3:=fun k=>by
   rw [←hZ] at k
   exact (k.sub (List.sublist_append_left _ _)).sub (List.sublist_append_right _ _)
 have ldX:∀ {w':World} {M:List Res},St w0 [] w' (Z++M)→(Instr.loadAt 143 (.pointer (some ⟨gr,0+1,none⟩))).run Tryz.prog w'=.ok (pV q.gi) w':=fun k=>(subA k).ldL (i:=0) (o:=1) (by rw [←hA3];rfl) (Lm _) rfl rfl
 have getZ:∀ {M:List Res} {i:Nat} {x:Res},Z[i]?=some x→(Z++M)[i]?=some x:=fun hx=>by rw [List.getElem?_append_left (List.getElem?_eq_some_iff.1 hx).1];exact hx
 have ldB2:∀ {w':World} {M:List Res},St w0 [] w' (Z++M)→(Instr.loadAt 29 (.pointer (some ⟨g7,0,none⟩))).run Tryz.prog w'=.ok (.slice a3 n3 c3) w':=fun h'=>ldQ (i:=4) h' (by rw [getZ zB,←hB]) (Ja _)
 have tQ:∀ {w':World} {M:List Res},St w0 [] w' (Z++M)→St w0 [] w' N:=fun k=>by
   rw [←hZ,←hN2] at k
   exact (((k.sub (List.sublist_append_left _ _)).sub (List.sublist_append_left _ _)).sub (List.sublist_append_right _ _)).sub (List.Sublist.cons _ (List.Sublist.cons _ (List.sublist_append_right _ _)))
 have h10d:=h10.same (Chg.drew [] w10)
 refine ⟨_,rfl,_,h9.top.ldA (i:=0) (l:=bP c' sa c'.snaps.length sc pa c'.aq.length pc) rfl (kG _) (fT _) rfl,w10,r10,fun w'=>∃M:List Res,St w0 [] w' (Z++M),⟨_,h10d.rest⟩,_,_,fun w' ⟨_,k⟩=>ldX k,_,_,_,fun w' ⟨_,k⟩=>ldB2 k,(FH (w0:=w0) (X:=[]) (N:=[]) a3 n3 c3 drop ⟨_,_,_,ok.KY,ok.D6,h10d.top⟩ (hrz _ (tQ h10d.rest)) hn3).mono ?_⟩
 rintro e w11 ⟨rfl,es1,ck1,M1,hE1,hM1,k11⟩
 have h11:=h10d.qw (T':=ixR q.gi q.gm es1 ck1) k11
 refine ⟨rfl,_,fun _ h=>h,⟨_,h11.rest⟩,_,_,ldX h11.rest,(Iw (w0:=w11) (X:=[q.gi,q.gm]) (N:=[]) q.gi q.gm (aV r.S drop) ra rs.length rc rs (fV.self (w0:=w0) (X:=[]) (N:=[]) ⟨_,_,_,hE1,hM1,h11.top⟩) ⟨h11.rest.rd (i:=3) (by rw [getZ zR]),fun x _=>aJ x⟩ (by omega)).mono ?_⟩
 rintro e w12 ⟨_,hadd⟩
 rcases hadd with ⟨_,rfl,es2,ck2,M2,hE2,hM2,k12⟩ | ⟨hbad,_⟩
 rotate_left
 · have:rs.all iK=true:=List.all_eq_true.2 fun y hy=>(hrs y hy).1
   rw [this] at hbad
   cases hbad
 have h12:=h11.qw (T':=ixR q.gi q.gm es2 ck2) k12
 refine ⟨_,rfl,_,az hI none _ _,fun h=>by simp at h,fun _=>?_⟩
 obtain ⟨G,hG⟩:∃G,cr drop r.C.aq=G:=⟨_,rfl⟩
 rw [hG] at hGn ⊢
 have hGl:G.length≤1024:=by rw [←hG];exact Nat.le_trans (uX _ _) hbd.2.2.2
 obtain ⟨g13,w13,r13,k13⟩:=(St.start w12).lit Il [aK nm] (by simp [Value.oneCell',aK]) (by simp)
 have h13:=h12.cR k13
 let U (i:Nat):List Nm:=nm::(G.take i).map fun p=>aA p.num
 let R1 (a:Option Addr) (n c i:Nat):Res:=.row 9 1 (.slice a n c) n ((U i).map aK)
 have hGr:∀ {w':World} {M:List Res},St w0 [] w' (Z++M)→RdE pkC 3 w' ga G.length gc G:=fun k=>⟨k.rd (i:=5) (by rw [getZ zG,←hGn]),fun _ _=>rfl⟩
 refine ⟨_,_,_,w13,r13,fun a n c x w'=>∃i:Nat,x=(i:Int)∧i≤G.length∧n=i+1∧aj w0 [] w' gd ps7 m7 ((Z++ixR q.gi q.gm es2 ck2)++ [R1 a n c i]),fun _ _ _ x _=>G.length-x.toNat,⟨0,rfl,by omega,rfl,h13⟩,?_⟩
 rintro a n c x w14 ⟨i,rfl,hi,rfl,h14⟩
 have z14:St w0 [] w14 (Z++(ixR q.gi q.gm es2 ck2++ [R1 a (i+1) c i])):=by rw [←List.append_assoc];exact h14.rest
 refine ⟨fun hlt=>?_,fun hge=>?_⟩
 · have hi':i<G.length:=by simp at hlt;omega
   obtain ⟨p,hp⟩:∃p,G[i]?=some p:=⟨_,List.getElem?_eq_getElem hi'⟩
   have hpg:cQ p.num=true:=by
     have:=List.mem_of_getElem? hp
     rw [←hG] at this
     exact Fi ok.chk (List.mem_filter.1 this).1
   obtain ⟨b,o,hab,hld⟩:=(hGr z14).ld (P:=Tryz.prog) (by decide) pqA pqS hp
   obtain ⟨g19,w15,r15,k15⟩:=h14.top.self.aD Mg
   obtain ⟨w16,r16,k16⟩:=k15.stA (i:=1) (v:=pkC p) rfl (pqS _) rfl rfl (pL p)
   have k16:St w14 (ij [R1 a (i+1) c i]) w16 [R1 a (i+1) c i,.arr g19 91 (pkC p)]:=k16
   have h16:=h14.qw k16
   refine ⟨b,o,hab,by omega,by omega,_,hld w14 (hGr z14),g19,w15,r15,w16,r16,_,k16.ldL (i:=1) (o:=0) rfl (jv _) rfl rfl,(jj p.num w16 (hT.au h16.chg) hpg).mono ?_⟩
   rintro e w17 ⟨rfl,c17⟩
   obtain ⟨g,w18,va,vc,w19,r18,r19,k19,_,_⟩:=(k16.same c17).Ko (i:=0) (ty:=166) Il rfl (aK (aA p.num)) rfl (by omega) (by rw [show maxLen=9223372036854775807 from rfl];omega)
   refine ⟨_,rfl,_,_,_,w18,r18,_,_,_,w19,r19,⟨i+1,ay hi' (by omega),by omega,rfl,?_⟩,aB hi' (by omega)⟩
   have e1:(U (i+1)).map aK=(U i).map aK++ [aK (aA p.num)]:=by
     show (nm::(G.take (i+1)).map fun p=>aA p.num).map aK=_
     rw [List.take_add_one,hp]
     simp [U]
   have k20:St w14 (ij [R1 a (i+1) c i]) w19 [R1 va (i+1+1) vc (i+1)]:=by
     show St _ _ _ [.row 9 1 (.slice va (i+1+1) vc) (i+1+1) ((U (i+1)).map aK)]
     rw [e1]
     exact k19.sub (List.Sublist.cons_cons _ (List.nil_sublist _))
   exact h14.qw k20
 · have hi':i=G.length:=by simp at hge;omega
   subst hi'
   have hU:U G.length=nm::G.map fun p=>aA p.num:=by show nm::(G.take G.length).map _=_;rw [List.take_length]
   have kl1:r1.K.length=96:=by rw [←hr1];exact ok.kl
   have c1:r1.C=c':=by rw [←hr1]
   have h15:aj w0 [] w14 gd ps7 m7 (((ixR q.gi q.gm es2 ck2++ [R1 a (G.length+1) c G.length])++(L++(B::Gn::N2)))++A3):=by
     have:=h14
     rw [List.append_assoc,←hZ] at this
     exact this.fr
   have ldA:∀o' v,(fD gd q.gi r1 sa sc pa pc)[o']?=some v→∀w' T,(isAgg T).run Tryz.prog w'=.ok false w'→St w0 [] w' A3→(Instr.loadAt T (.pointer (some ⟨gr,o',none⟩))).run Tryz.prog w'=.ok v w':=fun o' v hv w' T hT' k=>k.ldL (i:=0) (o:=o') (by rw [←hA3];rfl) hT' rfl hv
   have h107:(fD gd q.gi r1 sa sc pa pc)[107]?=some (.slice none 0 0):=rO kl1 sa sc pa pc 9
   obtain ⟨w22,r22,k22⟩:=h15.top.self.stL (i:=0) (o:=107) (off:=0+107) (T:=29) (v:=.slice none 0 0) (by rw [←hA3];rfl) (Tryz.sizeOf29 _) rfl (by rw [tr kl1];decide) rfl
   rw [mm h107,show A3.set 0 (.arr gr 145 (fD gd q.gi r1 sa sc pa pc))=A3 from mm (by rw [←hA3];rfl)] at k22
   have h22:=h15.qw k22
   refine ⟨_,_,_,ldA 107 _ h107 w14 _ (Ja _) h15.top,.func (.func 134) #[] #[.pointer (some ⟨g7,0,none⟩)],w14,by simp [Instr.makeFunc],(CG _ w14).mono ?_⟩
   rintro e w21 ⟨rfl,rfl⟩
   have hnum:∀w',St w0 [] w' (((ixR q.gi q.gm es2 ck2++ [R1 a (G.length+1) c G.length])++(L++(B::Gn::N2)))++A3)→Rd w' a (G.length+1) c 1 ((U G.length).map aK):=fun w' k=>k.rd (i:=2) rfl
   refine ⟨_,_,_,rfl,w22,r22,_,h22.top.ldP (i:=0) (o:=0) (n:=1) (xs:=[pV gd]) (l:=fD gd q.gi r1 sa sc pa pc) (T':=145) (by rw [←hA3];rfl) (plA _) (plS _) rfl rfl,(z8 a _ c (U G.length) h22 (fun w' _ k=>hnum w' k) (by omega) ⟨by have:=hcnt.1;simp [U];omega,by have:=hcnt.2;simp [U];omega⟩).mono ?_⟩
   rintro e w24 ⟨rfl,h24⟩
   rw [hU] at h24
   refine ⟨rfl,rfl,⟨ps7,q.gi,q.gm,es2,ck2,M2,sa,sc,pa,pc⟩,?_,?_⟩
   · refine ⟨hE2,by rw [←hr1];exact hM2,kl1,by rw [c1,hc's.1];exact ok.poly,by rw [c1];exact hck,by rw [c1];exact hc's.2.2,by rw [c1,hc's.2.1];exact hsl,by rw [c1];have:=(bh hck).2.2.1;omega,by rw [c1];have:=(bh hck).2.2.2;omega,?_⟩
     rw [←hr1]
     intro x hx
     rcases CI (vD ok.D6.asc drop) hx with hx | hx
     · exact hrs x hx
     · exact ok.good x (List.mem_filter.1 hx).1
   · have h25:aj w0 [] w24 gd ps7 (dW (nm::G.map fun p=>aA p.num) m7) ((ixR q.gi q.gm es2 ck2++([lC c' sa sc,kX c' pa pc]++N))++ [.arr gr 145 (fD gd q.gi r1 sa sc pa pc)]):=by
       refine h24.tQ (List.Sublist.append (List.Sublist.append (List.sublist_append_left _ _) (List.Sublist.append ?_ (List.Sublist.cons _ (List.Sublist.cons _ (by rw [←hN2];exact List.sublist_append_right _ _))))) ?_)
       · rw [←hL];exact List.Sublist.cons _ (List.Sublist.cons_cons _ (List.Sublist.cons_cons _ (List.nil_sublist _)))
       · rw [←hA3];exact List.Sublist.cons_cons _ (List.nil_sublist _)
     refine h25.vB ?_
     show List.Perm _ (N++([.arr gr 145 (fD gd q.gi r1 sa sc pa pc)]++([lC r1.C sa sc,kX r1.C pa pc]++ixR q.gi q.gm es2 ck2)))
     rw [c1]
     exact Nw _ _ _ _
end

end Go.Proofs.YtpmhjnhgpplmnaaGreatDoor
end
