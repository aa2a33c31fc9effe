/- The proof of RepoStoresCardSaid, part 4: what it rests on (conditions: those that each theorem names). -/
import Derived.Test.YtpmhjnhgpplmnaaGreatDoorU3
import Derived.Maps.RangeRun
import Derived.RangeFuncRecord
import Derived.Lib.ItoaLen
import Derived.Lib.ItoaMem
import Derived.Lib.AtoiAll
import Derived.Shelf.LaysC
import Derived.Ground.NamesProg
import Derived.Test.YtpmhjnhgpplmnaaGreatDoorProg
import Derived.Shelf.Strconv.ErrVarAll
import Derived.Test.YtpmhjnhgpplmnaaGreatDoorRows
section
namespace Go.Proofs.YtpmhjnhgpplmnaaGreatDoor.Sx
open Go
set_option maxRecDepth 8000

structure bF {α:Type} (key val:α→Value) (es:Array MapEntry) (clock:Nat) (M:List α):Prop where
 AX:es.toList.map (fun x=>(x.key,x.val))=M.map fun r=>(key r,val r)
 born:(es.toList.map (·.born)).Nodup
 old:∀x∈es.toList,x.born<clock

theorem bF.nil {α:Type} (key val:α→Value):bF key val #[] 0 ([]:List α):=⟨rfl,by simp,by simp⟩
theorem bF.len {α:Type} {key val:α→Value} {es:Array MapEntry} {clock:Nat} {M:List α} (h:bF key val es clock M):es.size=M.length:=by
 have:=congrArg List.length h.AX
 simpa using this
theorem bF.at_ {α:Type} {key val:α→Value} {es:Array MapEntry} {clock:Nat} {M:List α} (h:bF key val es clock M) {i:Nat} {x:MapEntry} (hx:es.toList[i]?=some x):∃r,M[i]?=some r∧x.key=key r∧x.val=val r:=by
 have:=congrArg (fun l=>l[i]?) h.AX
 simp only [List.getElem?_map,hx,Option.map_some] at this
 cases hm:M[i]? with
 | none=>rw [hm] at this;cases this
 | some r=>
   rw [hm] at this
   simp only [Option.map_some,Option.some.injEq,Prod.mk.injEq] at this
   exact ⟨r,rfl,this.1,this.2⟩

section
variable {P:Program} {α:Type} {key val:α→Value} {kid:α→List UInt8} {KT:TypeId} {kv:List UInt8→Value} {ok:List UInt8→Prop}

structure FK (P:Program) (KT:TypeId) (kv:List UInt8→Value) (ok:List UInt8→Prop):Prop where
 chk:∀id,ok id→∀(em:Bool) (w:World),(Instr.checkKey em 10000 KT (kv id)).run P w=.ok () w
 find:∀(α:Type) (val:α→Value) (kid:α→List UInt8) (L:List MapEntry) (M:List α) (id:List UInt8),ok id→∀w:World,L.map (fun x=>(x.key,x.val))=M.map (fun r=>(kv (kid r),val r))→(∀r∈M,ok (kid r))→
   (Instr.findKey KT (kv id) L).run P w=.ok (((M.findIdx? fun r=>kid r==id).bind fun j=>(M[j]?).map fun r=>(j,val r))) w
 stay:∀id,∀w:World,(Instr.keyThatStays (kv id) (kv id)).run P w=.ok (kv id) w

def dN (kid:α→List UInt8) (M:List α) (id:List UInt8):Option (Nat×α):=(M.findIdx? fun r=>kid r==id).bind fun j=>(M[j]?).map fun r=>(j,r)
theorem eT {M:List α} {id:List UInt8} {j:Nat} {r:α} (h:dN kid M id=some (j,r)):M[j]?=some r∧kid r=id:=by
 unfold dN at h
 simp only [Option.bind_eq_some_iff,Option.map_eq_some_iff,Prod.mk.injEq] at h
 obtain ⟨j',h1,r',h2,rfl,rfl⟩:=h
 refine ⟨h2,?_⟩
 rw [List.findIdx?_eq_some_iff_getElem] at h1
 obtain ⟨hl,h3,_⟩:=h1
 rw [List.getElem?_eq_getElem hl,Option.some.injEq] at h2
 rw [h2] at h3
 simpa using h3
theorem jV {M:List α} {id:List UInt8} (h:dN kid M id=none):∀r∈M,kid r≠id:=by
 intro r hr e
 unfold dN at h
 cases hf:M.findIdx? fun r=>kid r==id with
 | none=>
   have:=List.findIdx?_eq_none_iff.1 hf r hr
   simp [e] at this
 | some j=>
   rw [hf] at h
   rw [List.findIdx?_eq_some_iff_getElem] at hf
   obtain ⟨hl,_⟩:=hf
   simp [List.getElem?_eq_getElem hl] at h

variable {w:World} {g:Nat} {es:Array MapEntry} {clock:Nat} {M:List α} {mt ET:TypeId}

structure HL (P:Program) (KT:TypeId) (kv:List UInt8→Value) (ok:List UInt8→Prop) (key:α→Value) (kid:α→List UInt8) (M:List α):Prop where
 ops:FK P KT kv ok
 key:∀r,key r=kv (kid r)
 len:∀r∈M,ok (kid r)

theorem bF.Gy (hE:bF key val es clock M) (hK:HL P KT kv ok key kid M) {id:List UInt8} (hl:ok id) (w:World):(Instr.findKey KT (kv id) es.toList).run P w=.ok ((dN kid M id).map fun p=>(p.1,val p.2)) w:=by
 have he:es.toList.map (fun x=>(x.key,x.val))=M.map (fun r=>(kv (kid r),val r)):=by
   rw [hE.AX]
   refine List.map_congr_left fun r _=>?_
   rw [hK.key]
 rw [hK.ops.find α val kid es.toList M id hl w he hK.len]
 unfold dN
 cases M.findIdx? fun r=>kid r==id with
 | none=>rfl
 | some j=>cases h:M[j]?<;>simp [h]

def wh (kid:α→List UInt8) (M:List α) (r:α):List α:=match dN kid M (kid r) with
 | some (j,_)=>M.set j r
 | none=>M++ [r]

theorem bF.wE (hE:bF key val es clock M) (hK:HL P KT kv ok key kid M) (hm:P.underlying mt=some (.map KT ET)) (hg:w.heap[g]?=some (.map es clock)) (r:α) (hr:ok (kid r)):
   ∃es' clock',(Instr.mapUpdate mt (.map (some g)) (kv (kid r)) (val r)).run P w=.ok () (w.putObj g (.map es' clock'))∧bF key val es' clock' (wh kid M r):=by
 have hf:=hE.Gy hK hr w
 have hc:=hK.ops.chk _ hr false w
 have hset:∀o:Obj,(setObj g o).run P w=.ok () (w.putObj g o):=fun o=>by simp [setObj,Sem.run,hg,World.putObj]
 unfold wh
 cases h:dN kid M (kid r) with
 | none=>
   rw [h] at hf
   refine ⟨es.push { key:=kv (kid r),val:=val r,born:=clock },clock+1,?_,?_⟩
   · simp only [Instr.mapUpdate,getObj,Sem.run_bind,run_underlying hm,Result.andThen_ok,Sem.run,hg,Result.andThen,hc,hf,Option.map_none]
     exact hset _
   · refine ⟨?_,?_,?_⟩
     · rw [Array.toList_push,List.map_append,List.map_append,hE.AX]
       simp [hK.key]
     · rw [Array.toList_push,List.map_append,List.nodup_append]
       refine ⟨hE.born,by simp,?_⟩
       intro a ha b hb
       simp only [List.map_cons,List.map_nil,List.mem_singleton] at hb
       obtain ⟨x,hx,rfl⟩:=List.mem_map.1 ha
       have:=hE.old x hx
       omega
     · intro x hx
       rw [Array.toList_push,List.mem_append,List.mem_singleton] at hx
       rcases hx with hx | rfl
       · have:=hE.old x hx;omega
       · show clock<clock+1;omega
 | some p=>
   obtain ⟨j,s⟩:=p
   rw [h] at hf
   obtain ⟨hj,hs⟩:=eT h
   have hjl:j<M.length:=(List.getElem?_eq_some_iff.1 hj).1
   have hsz:=hE.len
   have hx:es.toList[j]?=some es[j]:=by simp [show j<es.size by omega]
   obtain ⟨s',h1,h2,h3⟩:=hE.at_ hx
   rw [hj,Option.some.injEq] at h1
   subst h1
   refine ⟨es.modify j fun e=> { e with key:=kv (kid r),val:=val r },clock,?_,?_⟩
   · have hk:(((es[j]?).map (·.key)).getD (kv (kid r)))=kv (kid r):=by
       rw [Array.getElem?_eq_getElem (by omega)]
       simp only [Option.map_some,Option.getD_some]
       rw [h2,hK.key,hs]
     have hst:(Instr.keyThatStays (kv (kid r)) (kv (kid r))).run P w=.ok (kv (kid r)) w:=by
       exact hK.ops.stay _ w
     simp only [Instr.mapUpdate,getObj,Sem.run_bind,run_underlying hm,Result.andThen_ok,Sem.run,hg,Result.andThen,hc,hf,Option.map_some,hk,hst]
     exact hset _
   · have hl:(es.modify j fun e=> { e with key:=kv (kid r),val:=val r }).toList=es.toList.modify j fun e=> { e with key:=kv (kid r),val:=val r } :=Array.toList_modify ..
     refine ⟨?_,?_,?_⟩
     · rw [hl]
       apply List.ext_getElem?
       intro i
       have:=congrArg (fun l=>l[i]?) hE.AX
       simp only [List.getElem?_map] at this
       rw [List.getElem?_map,List.getElem?_modify,List.getElem?_map,List.getElem?_set]
       by_cases hi:j=i
       · subst hi
         rw [hx]
         simp [hjl,hK.key]
       · simp only [if_neg hi]
         cases hq:es.toList[i]?<;>rw [hq] at this<;>simpa using this
     · rw [hl]
       have:(es.toList.modify j fun e=> { e with key:=kv (kid r),val:=val r }).map (·.born)=es.toList.map (·.born):=by
         apply List.ext_getElem?
         intro i
         rw [List.getElem?_map,List.getElem?_modify,List.getElem?_map]
         by_cases hi:j=i
         · subst hi;rw [hx];simp
         · simp only [if_neg hi];cases es.toList[i]?<;>rfl
       rw [this]
       exact hE.born
     · intro x hxm
       rw [hl] at hxm
       obtain ⟨i,hi⟩:=List.getElem?_of_mem hxm
       rw [List.getElem?_modify] at hi
       by_cases hji:j=i
       · subst hji
         rw [hx] at hi
         simp at hi
         subst hi
         exact hE.old es[j] (by simp)
       · simp only [if_neg hji] at hi
         cases hq:es.toList[i]? with
         | none=>rw [hq] at hi;simp at hi
         | some y=>rw [hq] at hi;simp at hi;subst hi;exact hE.old y (List.mem_of_getElem? hq)

theorem bF.Gm (hE:bF key val es clock M) (hK:HL P KT kv ok key kid M) (hm:P.underlying mt=some (.map KT ET)) (hg:w.heap[g]?=some (.map es clock)) {id:List UInt8} (hl:ok id) (ts:Array TypeId) (hts:ts[0]?=some mt) (ty:TypeId):
   ∃es',(Builtin.delete_ ts ty #[.map (some g),kv id]).run P w=.ok (.tuple #[]) (w.putObj g (.map es' clock))∧(∀j r,dN kid M id=some (j,r)→es'=es.eraseIdxIfInBounds j∧bF key val es' clock (M.eraseIdx j))∧(dN kid M id=none→es'=es∧bF key val es' clock M):=by
 have hf:=hE.Gy hK hl w
 have hc:=hK.ops.chk _ hl es.isEmpty w
 have hset:∀o:Obj,(setObj g o).run P w=.ok () (w.putObj g o):=fun o=>by simp [setObj,Sem.run,hg,World.putObj]
 cases h:dN kid M id with
 | none=>
   rw [h] at hf
   refine ⟨es,?_,by simp,fun _=>⟨rfl,hE⟩⟩
   simp [Builtin.delete_,getObj,hts,run_underlying hm,Sem.run,hg,Result.andThen,hc,hf,hset]
 | some p=>
   obtain ⟨j,s⟩:=p
   rw [h] at hf
   obtain ⟨hj,hs⟩:=eT h
   have hjl:j<M.length:=(List.getElem?_eq_some_iff.1 hj).1
   have hsz:=hE.len
   refine ⟨es.eraseIdxIfInBounds j,?_,?_,by simp⟩
   · simp [Builtin.delete_,getObj,hts,run_underlying hm,Sem.run,hg,Result.andThen,hc,hf,hset]
   · rintro j' r' h'
     simp only [Option.some.injEq,Prod.mk.injEq] at h'
     obtain ⟨rfl,rfl⟩:=h'
     have hle:(es.eraseIdxIfInBounds j).toList=es.toList.eraseIdx j:=by simp [Array.eraseIdxIfInBounds,show j<es.size by omega]
     refine ⟨rfl,?_,?_,?_⟩
     · rw [hle,Go.ChangeMaps.map_eraseIdx,Go.ChangeMaps.map_eraseIdx,hE.AX]
     · rw [hle,Go.ChangeMaps.map_eraseIdx]
       exact hE.born.sublist (List.eraseIdx_sublist _ _)
     · intro x hx
       rw [hle] at hx
       exact hE.old x ((List.eraseIdx_sublist _ _).subset hx)

theorem bF.BK (hE:bF key val es clock M) (hK:HL P KT kv ok key kid M) (hm:P.underlying mt=some (.map KT ET)) (hg:w.heap[g]?=some (.map es clock)) {id:List UInt8} (hl:ok id) {z:Value} (hz:∀w,(zeroValue ET).run P w=.ok z w):
   (Instr.lookup mt (.map (some g)) (kv id) true).run P w=.ok (.tuple #[((dN kid M id).map fun p=>val p.2).getD z,.bool (dN kid M id).isSome]) w:=by
 have hf:=hE.Gy hK hl w
 have hc:=hK.ops.chk _ hl es.isEmpty w
 cases h:dN kid M id with
 | none=>
   rw [h] at hf
   simp [Instr.lookup,getObj,run_underlying hm,Sem.run,hg,Result.andThen,hc,hf,hz]
 | some p=>
   rw [h] at hf
   simp [Instr.lookup,getObj,run_underlying hm,Sem.run,hg,Result.andThen,hc,hf]

theorem bF.lenOf (hE:bF key val es clock M) (hm:P.underlying mt=some (.map KT ET)) (hg:w.heap[g]?=some (.map es clock)) (ty:TypeId):(Builtin.len_ #[mt] ty #[.map (some g)]).run P w=.ok (.int .i64 (M.length:Int)) w:=by
 have:=hE.len
 simp [Builtin.len_,getObj,run_underlying hm,Sem.run,hg,Result.andThen,goInt,this]
end

end Go.Proofs.YtpmhjnhgpplmnaaGreatDoor.Sx
end

section
namespace Go.Proofs.YtpmhjnhgpplmnaaGreatDoor
open Go Sx
set_option maxRecDepth 8000

section
variable {α:Type} (kid:α→List UInt8)
def ep (S:List α) (r:α):List α:=S.filter (fun s=>lexLt (kid s) (kid r))++r::S.filter (fun s=>lexLt (kid r) (kid s))
def eO (S:List α) (id:List UInt8):List α:=S.filter fun s=> !decide (kid s=id)
def dw (S:List α) (id:List UInt8):Option α:=S.find? fun r=>kid r==id
end

section
variable {α:Type} {kid:α→List UInt8} {S M:List α}

theorem HG {l m:List UInt8} (h:l≠m):lexLt l m=true∨lexLt m l=true:=by
 cases h1:lexLt l m with
 | true=>exact .inl rfl
 | false=>
   cases h2:lexLt m l with
   | true=>exact .inr rfl
   | false=>exact absurd (tA _ _ h1 h2) h

theorem kO {x r:α} :x∈ep kid S r↔x=r∨(x∈S∧kid x≠kid r):=by
 unfold ep
 simp only [List.mem_append,List.mem_cons,List.mem_filter]
 constructor
 · rintro (⟨h1,h2⟩ | rfl | ⟨h1,h2⟩)
   · exact .inr ⟨h1,gu h2⟩
   · exact .inl rfl
   · exact .inr ⟨h1,(gu h2).symm⟩
 · rintro (rfl | ⟨h1,h2⟩)
   · exact .inr (.inl rfl)
   · rcases HG h2 with h | h
     · exact .inl ⟨h1,h⟩
     · exact .inr (.inr ⟨h1,h⟩)
theorem l9 {x:α} {id:List UInt8} :x∈eO kid S id↔x∈S∧kid x≠id:=by simp [eO]
theorem oG (h:gK kid S) (r:α):gK kid (ep kid S r):=by
 unfold ep gK
 refine List.pairwise_append.2 ⟨h.sublist List.filter_sublist,List.pairwise_cons.2 ⟨fun x hx=>(List.mem_filter.1 hx).2,h.sublist List.filter_sublist⟩,fun x hx y hy=>?_⟩
 have h1:=(List.mem_filter.1 hx).2
 rcases List.mem_cons.1 hy with rfl | hy
 · exact h1
 · exact lex_trans _ _ _ h1 (List.mem_filter.1 hy).2
theorem oN (h:gK kid S) (id:List UInt8):gK kid (eO kid S id):=h.sublist List.filter_sublist
theorem x9 (h:gK kid S):S.Pairwise fun x y=>kid x≠kid y:=h.imp fun h=>gu h

theorem eB {id:List UInt8} {r:α} (h:dw kid S id=some r):r∈S∧kid r=id:=⟨List.mem_of_find?_eq_some h,by simpa using List.find?_some h⟩
theorem yH {id:List UInt8} (h:dw kid S id=none):∀r∈S,kid r≠id:=by
 intro r hr
 rw [dw,List.find?_eq_none] at h
 simpa using h r hr
theorem mh (h:gK kid S) {r:α} :dw kid S (kid r)=some r↔r∈S:=by
 constructor
 · exact fun hf=>(eB hf).1
 · intro hr
   cases hq:dw kid S (kid r) with
   | none=>exact absurd rfl (yH hq r hr)
   | some z=>
     obtain ⟨h1,h2⟩:=eB hq
     rw [uU h h1 hr h2]
theorem gF (h:gK kid S) (r:α) (id:List UInt8):dw kid (ep kid S r) id=if kid r=id then some r else dw kid S id:=by
 by_cases e:kid r=id
 · rw [if_pos e,←e]
   exact (mh (oG h r)).2 (kO.2 (.inl rfl))
 · rw [if_neg e]
   cases hq:dw kid S id with
   | some z=>
     obtain ⟨h1,h2⟩:=eB hq
     rw [←h2]
     exact (mh (oG h r)).2 (kO.2 (.inr ⟨h1,fun e2=>e (e2.symm.trans h2)⟩))
   | none=>
     cases hz:dw kid (ep kid S r) id with
     | none=>rfl
     | some z=>
       obtain ⟨h1,h2⟩:=eB hz
       rcases kO.1 h1 with rfl | ⟨h3,_⟩
       · exact absurd h2 e
       · exact absurd h2 (yH hq z h3)
theorem yU (id id2:List UInt8):dw kid (eO kid S id) id2=if id=id2 then none else dw kid S id2:=by
 unfold dw eO
 rw [List.find?_filter]
 by_cases e:id=id2
 · rw [if_pos e,List.find?_eq_none]
   intro x _
   subst e
   by_cases h:kid x=id<;>simp [h]
 · rw [if_neg e]
   congr 1
   funext x
   by_cases h:kid x=id2
   · have:¬kid x=id:=fun e2=>e (e2.symm.trans h)
     have e':¬id2=id:=fun e2=>e e2.symm
     simp [h,e']
   · simp [h]
theorem xS (S:List α) (r:α):(ep kid S r).length≤S.length+1:=by
 have key:∀T:List α,(T.filter fun s=>lexLt (kid s) (kid r)).length+(T.filter fun s=>lexLt (kid r) (kid s)).length≤T.length:=by
   intro T
   induction T with
   | nil=>simp
   | cons x T ih=>
     cases h1:lexLt (kid x) (kid r) with
     | true=>
       have h2:=lex_asymm h1
       simp [List.filter_cons,h1,h2];omega
     | false=>cases h2:lexLt (kid r) (kid x)<;>simp [List.filter_cons,h1,h2]<;>omega
 have:=key S
 simp only [ep,List.length_append,List.length_cons]
 omega
theorem CB {S:List α} (hS:gK kid S) {r:α} (h:dw kid S (kid r)≠none):(ep kid S r).length≤S.length:=by
 obtain ⟨y,hy⟩:∃y,dw kid S (kid r)=some y:=by
   cases hq:dw kid S (kid r) with
   | none=>exact absurd hq h
   | some y=>exact ⟨y,rfl⟩
 obtain ⟨h1,h2⟩:=eB hy
 obtain ⟨A,B,rfl⟩:=List.append_of_mem h1
 have hp:=List.pairwise_append.1 hS
 have hA:A.filter (fun s=>lexLt (kid r) (kid s))=[]:=List.filter_eq_nil_iff.2 fun x hx=>by
   have:=hp.2.2 x hx y (by simp)
   rw [h2] at this
   rw [lex_asymm this];simp
 have hB:B.filter (fun s=>lexLt (kid s) (kid r))=[]:=List.filter_eq_nil_iff.2 fun x hx=>by
   have:=(List.pairwise_cons.1 hp.2.1).1 x hx
   rw [h2] at this
   rw [lex_asymm this];simp
 have l1:=List.length_filter_le (fun s=>lexLt (kid s) (kid r)) A
 have l2:=List.length_filter_le (fun s=>lexLt (kid r) (kid s)) B
 simp only [ep,List.filter_append,List.filter_cons,hA,hB,h2,lex_irrefl,List.length_append,List.length_cons,List.nil_append,List.append_nil,Bool.false_eq_true,if_false]
 omega
theorem B9 (S:List α) (id:List UInt8):(eO kid S id).length≤S.length:=List.length_filter_le _ _
theorem vw {S:List α} {id:List UInt8} {y:α} (h:dw kid S id=some y):(eO kid S id).length+1≤S.length:=by
 obtain ⟨h1,h2⟩:=eB h
 obtain ⟨A,B,rfl⟩:=List.append_of_mem h1
 have l1:=List.length_filter_le (fun s=> !decide (kid s=id)) A
 have l2:=List.length_filter_le (fun s=> !decide (kid s=id)) B
 simp only [eO,List.filter_append,List.filter_cons,h2,List.length_append,List.length_cons,decide_true,Bool.not_true,Bool.false_eq_true,if_false]
 omega

structure dA (kid:α→List UInt8) (M S:List α):Prop where
 perm:M.Perm S
 asc:gK kid S
theorem dA.nil:dA kid [] []:=⟨List.Perm.refl _,List.Pairwise.nil⟩

theorem KO (hp:M.Perm S) (hS:gK kid S) (id:List UInt8):(dN kid M id).map (·.2)=dw kid S id:=by
 cases hf:dN kid M id with
 | none=>
   have hn:=jV hf
   symm
   rw [Option.map_none,dw,List.find?_eq_none]
   intro r hr
   have:=hn r (hp.mem_iff.2 hr)
   simpa using this
 | some p=>
   obtain ⟨j,y⟩:=p
   obtain ⟨hj,hy⟩:=eT hf
   have hyS:y∈S:=hp.mem_iff.1 (List.mem_of_getElem? hj)
   rw [Option.map_some,←hy]
   exact ((mh hS).2 hyS).symm
theorem dA.find (h:dA kid M S) (id:List UInt8):(dN kid M id).map (·.2)=dw kid S id:=KO h.perm h.asc id

theorem tO {M:List α} {j:Nat} {y:α} (hj:M[j]?=some y):M=M.take j++y::M.drop (j+1)∧(∀r,M.set j r=M.take j++r::M.drop (j+1))∧M.eraseIdx j=M.take j++M.drop (j+1):=by
 obtain ⟨hl,e⟩:=List.getElem?_eq_some_iff.1 hj
 refine ⟨?_,fun r=>?_,List.eraseIdx_eq_take_drop_succ ..⟩
 · rw [←e,←List.drop_eq_getElem_cons hl,List.take_append_drop]
 · rw [List.set_eq_take_append_cons_drop,if_pos hl]

theorem dA.nd (h:dA kid M S):M.Pairwise fun x y=>kid x≠kid y:=(x9 h.asc).perm h.perm.symm fun h=>h.symm

theorem lG {M:List α} (h:M.Pairwise fun x y=>kid x≠kid y):M.Nodup:=h.imp fun h e=>h (by rw [e])

theorem dA.upd (h:dA kid M S) (r:α):dA kid (wh kid M r) (ep kid S r):=by
 refine ⟨?_,oG h.asc r⟩
 have hnd:(wh kid M r).Pairwise fun x y=>kid x≠kid y:=by
   unfold wh
   cases hf:dN kid M (kid r) with
   | none=>
     have hn:=jV hf
     exact List.pairwise_append.2 ⟨h.nd,by simp,fun x hx y hy=>by simp at hy;rw [hy];exact hn x hx⟩
   | some p=>
     obtain ⟨j,y⟩:=p
     obtain ⟨hj,hy⟩:=eT hf
     obtain ⟨h1,h2,_⟩:=tO hj
     have hM:=h.nd
     rw [h1] at hM
     show (M.set j r).Pairwise _
     rw [h2]
     have hp:=List.pairwise_append.1 hM
     have hc:=List.pairwise_cons.1 hp.2.1
     refine List.pairwise_append.2 ⟨hp.1,List.pairwise_cons.2 ⟨fun x hx=>by rw [←hy];exact hc.1 x hx,hc.2⟩,fun x hx z hz=>?_⟩
     rcases List.mem_cons.1 hz with rfl | hz
     · rw [←hy];exact hp.2.2 x hx y (by simp)
     · exact hp.2.2 x hx z (by simp [hz])
 refine (List.perm_ext_iff_of_nodup (lG hnd) (lG (x9 (oG h.asc r)))).2 fun x=>?_
 rw [kO,←h.perm.mem_iff]
 unfold wh
 cases hf:dN kid M (kid r) with
 | none=>
   have hn:=jV hf
   show x∈M++ [r]↔_
   rw [List.mem_append,List.mem_singleton]
   constructor
   · rintro (h1 | rfl)
     · exact .inr ⟨h1,hn x h1⟩
     · exact .inl rfl
   · rintro (rfl | ⟨h1,_⟩)
     · exact .inr rfl
     · exact .inl h1
 | some p=>
   obtain ⟨j,y⟩:=p
   obtain ⟨hj,hy⟩:=eT hf
   obtain ⟨h1,h2,_⟩:=tO hj
   show x∈M.set j r↔_
   rw [h2]
   have hM:=h.nd
   rw [h1] at hM
   have hp:=List.pairwise_append.1 hM
   have hc:=List.pairwise_cons.1 hp.2.1
   constructor
   · intro hx
     rcases List.mem_append.1 hx with hx | hx
     · refine .inr ⟨by rw [h1];simp [hx],?_⟩
       rw [←hy];exact hp.2.2 x hx y (by simp)
     · rcases List.mem_cons.1 hx with rfl | hx
       · exact .inl rfl
       · refine .inr ⟨by rw [h1];simp [hx],?_⟩
         rw [←hy];exact (hc.1 x hx).symm
   · rintro (rfl | ⟨hx,hne⟩)
     · simp
     · rw [h1] at hx
       rcases List.mem_append.1 hx with hx | hx
       · simp [hx]
       · rcases List.mem_cons.1 hx with rfl | hx
         · exact absurd hy hne
         · simp [hx]

theorem dA.del (h:dA kid M S) {id:List UInt8} {j:Nat} {y:α} (hf:dN kid M id=some (j,y)):dA kid (M.eraseIdx j) (eO kid S id):=by
 obtain ⟨hj,hy⟩:=eT hf
 obtain ⟨h1,_,h3⟩:=tO hj
 refine ⟨?_,oN h.asc id⟩
 have hM:=h.nd
 refine (List.perm_ext_iff_of_nodup (lG (hM.sublist (List.eraseIdx_sublist _ _))) (lG (x9 (oN h.asc id)))).2 fun x=>?_
 rw [l9,←h.perm.mem_iff,h3]
 rw [h1] at hM
 have hp:=List.pairwise_append.1 hM
 have hc:=List.pairwise_cons.1 hp.2.1
 constructor
 · intro hx
   rcases List.mem_append.1 hx with hx | hx
   · refine ⟨by rw [h1];simp [hx],?_⟩
     rw [←hy];exact hp.2.2 x hx y (by simp)
   · refine ⟨by rw [h1];simp [hx],?_⟩
     rw [←hy];exact (hc.1 x hx).symm
 · rintro ⟨hx,hne⟩
   rw [h1] at hx
   rcases List.mem_append.1 hx with hx | hx
   · simp [hx]
   · rcases List.mem_cons.1 hx with rfl | hx
     · exact absurd hy hne
     · simp [hx]
theorem bF.congr {key val val':α→Value} {es:Array MapEntry} {ck:Nat} (h:bF key val es ck M) (hv:∀r∈M,val r=val' r):bF key val' es ck M:=by
 refine ⟨?_,h.born,h.old⟩
 rw [h.AX]
 exact List.map_congr_left fun r hr=>by rw [hv r hr]
end

end Go.Proofs.YtpmhjnhgpplmnaaGreatDoor
end

section
namespace Go.Proofs.YtpmhjnhgpplmnaaGreatDoor
open Go Sx
set_option maxRecDepth 8000

abbrev Nm:=List UInt8
structure Ent where
 name:Nm
 file:Nat
abbrev Dir:=List Ent
structure ChM where
 made:Option Nat
 fr:Nm
 to:Nm
structure b8 where
 data:List UInt8
 syn:Nat
structure ah where
 size:Int
 files:List b8
 now:Dir
 syn:Dir
 chs:List ChM
 steps:Nat
 down:Bool
 arm:Option Nat
 bN:List Nat

def qE (b:UInt8):Bool:=decide (33≤b.toNat)&&decide (b.toNat≤126)&& !decide (b.toNat=47)
def cE (l:Nm):Bool:=decide (0<l.length)&&decide (l.length≤64)&&l.all qE

abbrev findD (d:Dir) (n:Nm):Option Ent:=dw Ent.name d n
def mkD (d:Dir) (c:ChM):Dir:=match c.made with
 | some i=>ep Ent.name d ⟨c.to,i⟩
 | none=>match findD d c.fr with
   | none=>d
   | some e=>if c.to=[] then eO Ent.name d c.fr else ep Ent.name (eO Ent.name d c.fr) ⟨c.to,e.file⟩
def replay (d:Dir) (cs:List ChM):Dir:=cs.foldl mkD d
theorem nN (d:Dir) (cs:List ChM) (c:ChM):replay d (cs++ [c])=mkD (replay d cs) c:=by simp [replay]

def iJ:b8:=⟨[],0⟩
def fileAt (fs:List b8) (i:Nat):b8:=fs.getD i iJ
def kC (m:ah):Nat:=(m.now.map fun e=>(fileAt m.files e.file).data.length).sum
def gw (fs:List b8) (i:Nat) (f:b8→b8):List b8:=fs.set i (f (fileAt fs i))

def bu (m:ah):ah×Option Int:=
 if m.arm=some 0 then ({ m with down:=true },some 1)
 else match m.bN with
   | []=>({ m with steps:=m.steps+1,arm:=m.arm.map (· -1) },none)
   | 0::r=>({ m with steps:=m.steps+1,arm:=m.arm.map (· -1),bN:=r },some 2)
   | (k+1)::r=>({ m with steps:=m.steps+1,arm:=m.arm.map (· -1),bN:=k::r },none)
def fI (m:ah) (ns:List Nm):Option Int:=if m.down then some 1 else if ns.all cE then none else some 6
def bW (m:ah) (n:Nm):Option Int:=if m.down then some 1 else if !cE n then some 6 else if (findD m.now n).isNone then some 5 else none
def cA (m:ah) (n:Nm):Nat:=((findD m.now n).map (·.file)).getD 0

def aT (m:ah) (f:ah→ah):ah×Option Int:=match (bu m).2 with
 | some e=>((bu m).1,some e)
 | none=>(f (bu m).1,none)
def gh (m:ah) (n:Nm):ChM:=⟨some m.files.length,[],n⟩
def iO (m:ah) (c:ChM):ah:= { m with now:=mkD m.now c,chs:=m.chs++ [c] }
def gZ (m:ah) (n:Nm):ah:= { iO m (gh m n) with files:=m.files++ [iJ] }
def aN (m:ah) (n:Nm):ah×Option Int:=match fI m [n] with
 | some e=>(m,some e)
 | none=>if (findD m.now n).isSome then (m,some 4) else if 4096≤m.now.length then (m,some 19) else aT m fun m=>gZ m n
def fits:Int→List (List UInt8)→Bool
 | _,[]=>true
 | r,p::ps=>decide ((p.length:Int)≤r)&&fits (r-p.length) ps
def bK (m:ah) (i:Nat) (ps:List (List UInt8)):ah:= { m with files:=gw m.files i fun f=>⟨f.data++ps.flatten,f.syn⟩ }
def aP (m:ah) (n:Nm) (ps:List (List UInt8)):ah×Option Int:=match bW m n with
 | some e=>(m,some e)
 | none=>if fits (m.size-kC m) ps then aT m fun m'=>bK m' (cA m n) ps else (m,some 3)
def jW (m:ah) (i:Nat):ah:= { m with files:=gw m.files i fun f=>⟨f.data,f.data.length⟩ }
def cW (m:ah) (n:Nm):ah×Option Int:=match bW m n with
 | some e=>(m,some e)
 | none=>aT m fun m'=>jW m' (cA m n)
def fN (m:ah):ah:= { m with syn:=m.now,chs:=[] }
def aL (m:ah):ah×Option Int:=match fI m [] with
 | some e=>(m,some e)
 | none=>aT m fN
def dZ (m:ah) (a b:Nm):ah×Option Int:=match fI m [a,b] with
 | some e=>(m,some e)
 | none=>match bW m a with
   | some e=>(m,some e)
   | none=>aT m fun m=>iO m ⟨none,a,b⟩
def aM (m:ah) (n:Nm):ah×Option Int:=match bW m n with
 | some e=>(m,some e)
 | none=>aT m fun m=>iO m ⟨none,n,[]⟩
def oW (m:ah) (n:Nm):List UInt8:=if (bW m n).isSome then [] else (fileAt m.files (cA m n)).data
def oF (l:List UInt8) (at_ n:Int):Bool:=decide (at_<0)||decide (n<0)||decide (at_>(l.length:Int))||decide (n>(l.length:Int)-at_)
def gD (m:ah) (n:Nm) (at_ k:Int):Option Int:=match bW m n with
 | some e=>some e
 | none=>if oF (fileAt m.files (cA m n)).data at_ k then some 7 else none
def eL (m:ah) (n:Nm) (at_ k:Int):List UInt8:=if (gD m n at_ k).isSome then [] else ((fileAt m.files (cA m n)).data.drop at_.toNat).take k.toNat
def jG (size:Int):ah:=⟨size,[],[],[],[],0,false,none,[]⟩

structure fA (k:Nat) (d:Dir):Prop where
 asc:gK Ent.name d
 len:d.length≤4096
 ent:∀e∈d,e.file<k∧cE e.name=true
 inj:d.Pairwise fun x y=>x.file≠y.file
structure WFD (m:ah):Prop where
 now:m.now=replay m.syn m.chs
 tI:∀k,fA m.files.length (replay m.syn (m.chs.take k))
 made:∀c∈m.chs,∀i,c.made=some i→i<m.files.length
 syn:∀f∈m.files,f.syn≤f.data.length∧f.data.length≤1099511627776
 size:0≤m.size∧m.size≤67108864

theorem WFD.dV {m:ah} (h:WFD m):fA m.files.length m.now:=by
 have:=h.tI m.chs.length
 rw [List.take_length,←h.now] at this
 exact this
theorem WFD.N5 {m:ah} (h:WFD m):fA m.files.length m.syn:=h.tI 0
theorem fA.mono {k k':Nat} {d:Dir} (h:fA k d) (hk:k≤k'):fA k' d:=⟨h.asc,h.len,fun e he=>⟨by have:=(h.ent e he).1;omega,(h.ent e he).2⟩,h.inj⟩
theorem HV (k:Nat):fA k []:=⟨List.Pairwise.nil,by simp,by simp,List.Pairwise.nil⟩
theorem fA.del {k:Nat} {d:Dir} (h:fA k d) (n:Nm):fA k (eO Ent.name d n):=
 ⟨oN h.asc n,Nat.le_trans (B9 _ _) h.len,fun e he=>h.ent e (l9.1 he).1,h.inj.sublist List.filter_sublist⟩
theorem fA.inj' {k:Nat} {d:Dir} (h:fA k d) {x y:Ent} (hx:x∈d) (hy:y∈d) (he:x.file=y.file):x=y:=by
 have hi:=h.inj
 clear h
 induction d with
 | nil=>simp at hx
 | cons z d ih=>
   have a:=List.pairwise_cons.1 hi
   rcases List.mem_cons.1 hx with e1 | h1<;>rcases List.mem_cons.1 hy with e2 | h2
   · rw [e1,e2]
   · rw [e1] at he;exact absurd he (a.1 y h2)
   · rw [e2] at he;exact absurd he.symm (a.1 x h1)
   · exact ih h1 h2 a.2
theorem fA.ins {k:Nat} {d:Dir} (h:fA k d) {n:Nm} {i:Nat} (hi:i<k) (hn:cE n=true) (hl:d.length+1≤4096∨findD d n≠none) (hne:∀e∈d,e.name≠n→e.file≠i):fA k (ep Ent.name d ⟨n,i⟩):=by
 refine ⟨oG h.asc _,?_,fun e he=>?_,?_⟩
 · rcases hl with hl | hl
   · exact Nat.le_trans (xS d _) hl
   · exact Nat.le_trans (CB h.asc hl) h.len
 · rcases kO.1 he with rfl | ⟨he,_⟩
   · exact ⟨hi,hn⟩
   · exact h.ent e he
 · unfold ep
   refine List.pairwise_append.2 ⟨h.inj.sublist List.filter_sublist,List.pairwise_cons.2 ⟨fun x hx=>?_,h.inj.sublist List.filter_sublist⟩,fun x hx y hy=>?_⟩
   · have h1:=List.mem_filter.1 hx
     exact (hne x h1.1 (gu h1.2).symm).symm
   · have h1:=List.mem_filter.1 hx
     rcases List.mem_cons.1 hy with rfl | hy
     · exact hne x h1.1 (gu h1.2)
     · have h2:=List.mem_filter.1 hy
       intro e
       have e2:=h.inj' h1.1 h2.1 e
       subst e2
       have:=lex_trans _ _ _ h1.2 h2.2
       rw [lex_irrefl] at this
       cases this

theorem WFD.snoc {m:ah} (h:WFD m) {c:ChM} {fs:List b8} (hfs:m.files.length≤fs.length) (hs:∀f∈fs,f.syn≤f.data.length∧f.data.length≤1099511627776) (hc:∀i,c.made=some i→i<fs.length) (hd:fA fs.length (mkD m.now c)):
   WFD { iO m c with files:=fs } :=by
 refine ⟨?_,fun k=>?_,fun c' hc'=>?_,hs,h.size⟩
 · show mkD m.now c=replay m.syn (m.chs++ [c])
   rw [nN,←h.now]
 · show fA fs.length (replay m.syn ((m.chs++ [c]).take k))
   by_cases hk:k≤m.chs.length
   · rw [List.take_append_of_le_length hk]
     exact (h.tI k).mono hfs
   · rw [List.take_of_length_le (by simp;omega),nN,←h.now]
     exact hd
 · rcases List.mem_append.1 hc' with h1 | h1
   · exact fun i hi=>Nat.lt_of_lt_of_le (h.made c' h1 i hi) hfs
   · simp at h1;rw [h1];exact hc
theorem D5 (m:ah):∃(s:Nat) (d:Bool) (a:Option Nat) (f:List Nat),(bu m).1= { m with steps:=s,down:=d,arm:=a,bN:=f } :=by
 unfold bu
 split
 · exact ⟨m.steps,true,m.arm,m.bN,by cases m;rfl⟩
 · split
   · rename_i h;exact ⟨_,m.down,_,[],by rw [←h]⟩
   · rename_i r h;exact ⟨_,m.down,_,_,rfl⟩
   · rename_i k r h;exact ⟨_,m.down,_,_,rfl⟩
theorem WFD.upd {m:ah} (h:WFD m) (s:Nat) (d:Bool) (a:Option Nat) (f:List Nat):WFD { m with steps:=s,down:=d,arm:=a,bN:=f } :=⟨h.now,h.tI,h.made,h.syn,h.size⟩
end Go.Proofs.YtpmhjnhgpplmnaaGreatDoor
end

section
namespace Go.Proofs.YtpmhjnhgpplmnaaGreatDoor
open Go Sx
set_option maxRecDepth 8000

def iE (w:World):Prop:=Lib.TabIs Tryz.prog w "internal/strconv.uint64pow10" .u64 Lib.pow10Tab
theorem iE.au {w w':World} (h:iE w) (hc:Chg [] w w'):iE w':=by
 have hg:Tryz.prog.globalNamed "internal/strconv.uint64pow10" =some 3:=by kernel_rfl
 unfold iE Lib.TabIs World.var? at*
 rw [hg] at h ⊢
 simp only [Option.bind_some] at h ⊢
 cases hh:w.heap[3]? with
 | none=>rw [hh] at h;simp at h
 | some o=>
   have hlt:=(Array.getElem?_eq_some_iff.1 hh).1
   rw [hc.block _ hlt (by simp),hh]
   rw [hh] at h
   exact h

theorem IK (w:World) (q:Nat) (os:Array Obj):Chg [] w (Sort.grow (w.drewN q) os):=⟨rfl,rfl,rfl,by simp [Sort.grow,World.drewN],fun k hk _=>by simp [Sort.grow,World.drewN,Array.getElem?_append_left hk]⟩

theorem G7:∀(u:Nat),∀b∈Lib.decDigits u,48≤b.toNat∧b.toNat≤57:=by
 intro u
 induction u using Nat.strongRecOn with
 | ind u ih=>
   intro b hb
   rw [Lib.decDigits] at hb
   split at hb
   · simp only [List.mem_singleton] at hb
     subst hb
     rw [UInt8.toNat_ofNat'];omega
   · rcases List.mem_append.1 hb with hb | hb
     · exact ih (u / 10) (by omega) b hb
     · simp only [List.mem_singleton] at hb
       subst hb
       rw [UInt8.toNat_ofNat'];omega
def aA (num:Int):Nm:=112::Lib.itoa num
theorem IF {num:Int} (hg:cQ num=true):cE (aA num)=true:=by
 have h:=dy.1 hg
 obtain ⟨u,rfl⟩:∃u:Nat,num=(u:Int):=⟨num.toNat,by omega⟩
 have hl:=Lib.itoa_length_le (u:Int) (by omega) (by omega)
 rw [Lib.itoa_nonneg] at hl
 rw [aA,Lib.itoa_nonneg]
 unfold cE
 simp only [List.length_cons,Bool.and_eq_true,decide_eq_true_eq,List.all_cons]
 refine ⟨⟨by omega,by omega⟩,by decide,?_⟩
 rw [List.all_eq_true]
 intro b hb
 have:=G7 u b hb
 simp only [qE,Bool.and_eq_true,decide_eq_true_eq,Bool.not_eq_true',decide_eq_false_iff_not]
 omega

theorem Ae (num:Int) (h: -9223372036854775808≤num∧num≤9223372036854775807) (w:World) (hT:iE w):Calls Tryz.prog 95 #[.int .i64 num] w fun e w'=>e=.returned (.string ⟨(Lib.itoa num).toArray⟩)∧Chg [] w w':=by
 refine Calls.mono (Any.strconv_Itoa Kl num h.1 h.2 w hT) ?_
 rintro e w' ⟨rfl,q,os,rfl⟩
 exact ⟨rfl,IK w q os⟩

theorem Of (a b:ByteArray) (x y:Operand) (w:World) (h:(a.size:Int)+(b.size:Int)≤9223372036854775807):(fF .add 9 x y (.string a) (.string b)).run Tryz.prog w=.ok (.string (a++b)) w:=by
 simp [fF,eqGuard,binOp,Op.stringOp,h]

theorem jj (num:Int) (w:World) (hT:iE w) (hg:cQ num=true):Calls Tryz.prog 132 #[.int .i64 num] w fun e w'=>e=.returned (aK (aA num))∧Chg [] w w':=by
 have h:=dy.1 hg
 apply BL
 refine (nX num w).mono ?_
 rintro e w1 ⟨rfl,rfl⟩
 rw [hg]
 refine ⟨_,rfl,fun h=>(by cases h),fun _=>(Ae num (by omega) w1 hT).mono ?_⟩
 rintro e w2 ⟨rfl,c2⟩
 have hsz:((ByteArray.mk #[112]).size:Int)+((ByteArray.mk (Lib.itoa num).toArray).size:Int)≤9223372036854775807:=by
   have:=Lib.itoa_length_le num (by omega) (by omega)
   have e1:(ByteArray.mk (Lib.itoa num).toArray).size=(Lib.itoa num).length:=by simp [ByteArray.size]
   have e2:(ByteArray.mk #[112]).size=1:=rfl
   rw [e1,e2]
   omega
 refine ⟨_,rfl,_,Of _ _ _ _ _ hsz,?_,c2⟩
 have e:(ByteArray.mk #[112]++ByteArray.mk (Lib.itoa num).toArray)=ByteArray.mk (112::Lib.itoa num).toArray:=by
   apply ByteArray.ext
   simp [ByteArray.data_append]
 exact congrArg (fun b=>Ending.returned (.string b)) e

end Go.Proofs.YtpmhjnhgpplmnaaGreatDoor
end

section
namespace Go.Proofs.YtpmhjnhgpplmnaaGreatDoor
open Go Sx
set_option maxRecDepth 8000

theorem qZ:∀(l:List UInt8) (acc v:Nat),Lib.parseUint10 acc l=.ok v→∀c:UInt8,48≤c.toNat→c.toNat≤57→v<1844674407370955162→v*10+(c.toNat-48)<18446744073709551616→Lib.parseUint10 acc (l++ [c])=.ok (v*10+(c.toNat-48))
 | [],acc,v,h,c,h1,h2,h3,h4=>by
   simp only [Lib.parseUint10] at h
   injection h with h
   subst h
   simp only [List.nil_append,Lib.parseUint10]
   rw [if_pos ⟨h1,h2⟩,if_neg (by omega),if_neg (by omega)]
 | b::l,acc,v,h,c,h1,h2,h3,h4=>by
   simp only [Lib.parseUint10] at h
   simp only [List.cons_append,Lib.parseUint10]
   split at h
   · rename_i hb
     rw [if_pos hb]
     split at h
     · cases h
     · rename_i ha
       rw [if_neg ha]
       split at h
       · cases h
       · rename_i hc
         rw [if_neg hc]
         exact qZ l _ v h c h1 h2 h3 h4
   · cases h
theorem gC {k:Nat} (h:k<10):(UInt8.ofNat (48+k)).toNat=48+k:=by rw [UInt8.toNat_ofNat'];omega
theorem Ir:∀u:Nat,u<9223372036854775808→Lib.parseUint10 0 (Lib.decDigits u)=.ok u:=by
 intro u
 induction u using Nat.strongRecOn with
 | ind u ih=>
   intro hu
   rw [Lib.decDigits]
   split
   · rename_i h
     have:=qZ [] 0 0 rfl (UInt8.ofNat (48+u)) (by rw [gC h];omega) (by rw [gC h];omega) (by omega) (by rw [gC h];omega)
     rw [List.nil_append,gC h] at this
     rw [this]
     congr 1;omega
   · rename_i h
     have hm:u%10<10:=Nat.mod_lt _ (by decide)
     have:=qZ (Lib.decDigits (u / 10)) 0 (u / 10) (ih (u / 10) (by omega) (by omega)) (UInt8.ofNat (48+u%10)) (by rw [gC hm];omega) (by rw [gC hm];omega) (by omega) (by rw [gC hm];omega)
     rw [gC hm] at this
     rw [this]
     congr 1;omega
theorem JT (u:Nat):Lib.decDigits u≠ []:=by
 rw [Lib.decDigits]
 split<;>simp
theorem Dq:∀(u:Nat),∀b∈Lib.decDigits u,48≤b.toNat∧b.toNat≤57:=by
 intro u
 induction u using Nat.strongRecOn with
 | ind u ih=>
   intro b hb
   rw [Lib.decDigits] at hb
   split at hb
   · rename_i h
     simp only [List.mem_singleton] at hb
     subst hb
     rw [gC h];omega
   · rcases List.mem_append.1 hb with hb | hb
     · exact ih (u / 10) (by omega) b hb
     · simp only [List.mem_singleton] at hb
       subst hb
       rw [gC (Nat.mod_lt _ (by decide))];omega
theorem Ki {u:Nat} (hu:u<9223372036854775808):Lib.atoiAll (Lib.decDigits u)=.ok (u:Int):=by
 have hp:=Ir u hu
 have hb:=Dq u
 have hn:=JT u
 revert hp hb hn
 generalize Lib.decDigits u=l
 intro hp hb hn
 cases l with
 | nil=>exact absurd rfl hn
 | cons c r=>
   have hc:=hb c (by simp)
   have h1:¬(c.toNat=43∨c.toNat=45):=by omega
   have h2:¬c.toNat=45:=by omega
   have hm:Lib.parseMag (c::r)=.ok u:=by unfold Lib.parseMag;rw [if_neg (by simp)];exact hp
   have hu2:¬(9223372036854775808≤u):=by omega
   unfold Lib.atoiAll
   dsimp only
   rw [if_neg h1,hm]
   simp only [h2,hu2,if_false,not_false_eq_true,true_and,false_and]
theorem Dm (u:Nat):Lib.itoa (u:Int)=Lib.decDigits u:=Lib.itoa_nonneg u
theorem G2 {n:Int} (h0:0≤n) (h1:n≤9223372036854775807):Lib.atoiAll (Lib.itoa n)=.ok n:=by
 obtain ⟨u,rfl⟩:∃u:Nat,n=(u:Int):=⟨n.toNat,by omega⟩
 rw [Dm]
 exact Ki (by omega)

def zX (l:List UInt8):Nat:=l.foldl (fun n c=>10*n+(c.toNat-48)) 0
theorem yl (l:List UInt8) (c:UInt8):zX (l++ [c])=10*zX l+(c.toNat-48):=by simp [zX]
theorem Ib:∀u:Nat,zX (Lib.decDigits u)=u:=by
 intro u
 induction u using Nat.strongRecOn with
 | ind u ih=>
   rw [Lib.decDigits]
   split
   · rename_i h
     have:=yl [] (UInt8.ofNat (48+u))
     rw [List.nil_append,gC h] at this
     rw [this];simp [zX]
   · rw [yl,ih (u / 10) (by omega),gC (Nat.mod_lt _ (by decide))];omega
theorem Gp:∀(k u:Nat),u<10^(k+1)→(Lib.decDigits u).length≤k+1
 | 0,u,h=>by rw [Lib.decDigits,dif_pos (by simpa using h)];simp
 | k+1,u,h=>by
   rw [Lib.decDigits]
   split
   · simp
   · rw [List.length_append,List.length_singleton]
     rw [Nat.pow_succ] at h
     have:=Gp k (u / 10) (by omega)
     omega

def aW (c:UInt8) (n:Int):List UInt8:=c::Lib.itoa n
def zb (c:UInt8) (lo hi:Int) (s:List UInt8):Option Int:=match s with
 | []=>none
 | _::r=>match Lib.atoiAll r with
   | .ok v=>if lo≤v∧v≤hi∧aW c v=s then some v else none
   | _=>none
theorem KP {c:UInt8} {lo hi:Int} (h0:0≤lo) (h1:hi≤9223372036854775807) {s:List UInt8} {v:Int} :zb c lo hi s=some v↔lo≤v∧v≤hi∧aW c v=s:=by
 constructor
 · intro h
   unfold zb at h
   split at h
   · cases h
   · split at h
     · split at h
       · rename_i hc
         obtain rfl:=Option.some.inj h
         exact hc
       · cases h
     · cases h
 · rintro ⟨a,b,rfl⟩
   unfold zb aW
   simp only [G2 (by omega:0≤v) (by omega)]
   rw [if_pos ⟨a,b,trivial⟩]
theorem mZ {c:UInt8} {v:Int} (h0:0≤v) (h1:v≤1099511627776):∃r,aW c v=c::r∧r≠ []∧r.length≤13∧(∀b∈r,48≤b.toNat∧b.toNat≤57)∧(zX r:Int)=v:=by
 obtain ⟨u,rfl⟩:∃u:Nat,v=(u:Int):=⟨v.toNat,by omega⟩
 refine ⟨Lib.decDigits u,by rw [aW,Dm],JT u,Gp 12 u (by omega),Dq u,by rw [Ib]⟩

end Go.Proofs.YtpmhjnhgpplmnaaGreatDoor
end

section
namespace Go.Proofs.YtpmhjnhgpplmnaaGreatDoor
open Go.Shelf
def AV:Go.Shelf.Ren:=⟨fun | 172=>94 | 244=>192 | 245=>193 | 247=>263 | 279=>264 | 280=>265 | 281=>266 | 282=>267 | 287=>316 | 316=>317 | 171=>95 | 205=>318 | 321=>355 | 322=>356 | 243=>194 | 246=>268 | 283=>319 | 284=>320 | 285=>321 | 286=>322 | 129=>274 | 317=>357 | 318=>358 | 319=>359 | 320=>360 | 337=>374 | 338=>375 | n=>n,fun | 9=>9 | 3=>3 | 75=>58 | 76=>182 | 4=>4 | 5=>5 | 167=>356 | 37=>26 | 0=>0 | 85=>357 | 2=>2 | 168=>359 | 53=>42 | 175=>412 | 46=>299 | 210=>416 | 127=>454 | 145=>457 | 143=>455 | 21=>21 | 171=>417 | 173=>419 | 212=>459 | 51=>370 | 20=>20 | 213=>460 | 232=>39 | 233=>368 | 80=>482 | n=>n,fun | 15=>0 | 16=>1 | 17=>3 | 18=>4 | 19=>5 | n=>n⟩
theorem xG:Go.Proofs.LaysC.n172 Tryz.prog AV:= {
 mixed:=by kernel_rfl
 f129:=Tryz.func274.trans (congrArg some (by kernel_rfl))
 f171:=Tryz.func95.trans (congrArg some (by kernel_rfl))
 f172:=Tryz.func94.trans (congrArg some (by kernel_rfl))
 f205:=Tryz.func318.trans (congrArg some (by kernel_rfl))
 f243:=Tryz.func194.trans (congrArg some (by kernel_rfl))
 f244:=Tryz.func192.trans (congrArg some (by kernel_rfl))
 f245:=Tryz.func193.trans (congrArg some (by kernel_rfl))
 f246:=Tryz.func268.trans (congrArg some (by kernel_rfl))
 f247:=Tryz.func263.trans (congrArg some (by kernel_rfl))
 f279:=Tryz.func264.trans (congrArg some (by kernel_rfl))
 f280:=Tryz.func265.trans (congrArg some (by kernel_rfl))
 f281:=Tryz.func266.trans (congrArg some (by kernel_rfl))
 f282:=Tryz.func267.trans (congrArg some (by kernel_rfl))
 f283:=Tryz.func319.trans (congrArg some (by kernel_rfl))
 f284:=Tryz.func320.trans (congrArg some (by kernel_rfl))
 f285:=Tryz.func321.trans (congrArg some (by kernel_rfl))
 f286:=Tryz.func322.trans (congrArg some (by kernel_rfl))
 f287:=Tryz.func316.trans (congrArg some (by kernel_rfl))
 f316:=Tryz.func317.trans (congrArg some (by kernel_rfl))
 f317:=Tryz.func357.trans (congrArg some (by kernel_rfl))
 f318:=Tryz.func358.trans (congrArg some (by kernel_rfl))
 f319:=Tryz.func359.trans (congrArg some (by kernel_rfl))
 f320:=Tryz.func360.trans (congrArg some (by kernel_rfl))
 f321:=Tryz.func355.trans (congrArg some (by kernel_rfl))
 f322:=Tryz.func356.trans (congrArg some (by kernel_rfl))
 f337:=Tryz.func374.trans (congrArg some (by kernel_rfl))
 f338:=Tryz.func375.trans (congrArg some (by kernel_rfl))
 t0:=Tryz.underlying0
 a0:=Tryz.isAgg0
 z0:=Tryz.sizeOf0
 v0:=Tryz.zeroValue0
 t2:=Tryz.underlying2
 a2:=Tryz.isAgg2
 z2:=Tryz.sizeOf2
 v2:=Tryz.zeroValue2
 t3:=Tryz.underlying3
 a3:=Tryz.isAgg3
 z3:=Tryz.sizeOf3
 v3:=Tryz.zeroValue3
 t4:=Tryz.underlying4
 a4:=Tryz.isAgg4
 z4:=Tryz.sizeOf4
 v4:=Tryz.zeroValue4
 t5:=Tryz.underlying5
 a5:=Tryz.isAgg5
 z5:=Tryz.sizeOf5
 v5:=Tryz.zeroValue5
 t9:=Tryz.underlying9
 a9:=Tryz.isAgg9
 z9:=Tryz.sizeOf9
 v9:=Tryz.zeroValue9
 t20:=Tryz.underlying20
 a20:=Tryz.isAgg20
 z20:=Tryz.sizeOf20
 v20:=Tryz.zeroValue20
 t21:=Tryz.underlying21
 a21:=Tryz.isAgg21
 z21:=Tryz.sizeOf21
 v21:=Tryz.zeroValue21
 t37:=Tryz.underlying26
 a37:=Tryz.isAgg26
 z37:=Tryz.sizeOf26
 v37:=Tryz.zeroValue26
 t46:=Tryz.underlying299
 a46:=Tryz.isAgg299
 z46:=Tryz.sizeOf299
 v46:=Tryz.zeroValue299
 t51:=Tryz.underlying370
 a51:=Tryz.isAgg370
 z51:=Tryz.sizeOf370
 v51:=Tryz.zeroValue370
 t53:=Tryz.underlying42
 a53:=Tryz.isAgg42
 z53:=Tryz.sizeOf42
 v53:=Tryz.zeroValue42
 t75:=Tryz.underlying58
 a75:=Tryz.isAgg58
 z75:=Tryz.sizeOf58
 v75:=Tryz.zeroValue58
 t76:=Tryz.underlying182
 a76:=Tryz.isAgg182
 z76:=Tryz.sizeOf182
 v76:=Tryz.zeroValue182
 t85:=Tryz.underlying357
 a85:=Tryz.isAgg357
 z85:=Tryz.sizeOf357
 v85:=Tryz.zeroValue357
 t127:=Tryz.underlying454
 a127:=Tryz.isAgg454
 z127:=Tryz.sizeOf454
 v127:=Tryz.zeroValue454
 t143:=Tryz.underlying455
 a143:=Tryz.isAgg455
 z143:=Tryz.sizeOf455
 v143:=Tryz.zeroValue455
 t145:=Tryz.underlying457
 a145:=Tryz.isAgg457
 z145:=Tryz.sizeOf457
 v145:=Tryz.zeroValue457
 t167:=Tryz.underlying356
 a167:=Tryz.isAgg356
 z167:=Tryz.sizeOf356
 v167:=Tryz.zeroValue356
 t168:=Tryz.underlying359
 a168:=Tryz.isAgg359
 z168:=Tryz.sizeOf359
 v168:=Tryz.zeroValue359
 t171:=Tryz.underlying417
 a171:=Tryz.isAgg417
 z171:=Tryz.sizeOf417
 v171:=Tryz.zeroValue417
 t173:=Tryz.underlying419
 a173:=Tryz.isAgg419
 z173:=Tryz.sizeOf419
 v173:=Tryz.zeroValue419
 t175:=Tryz.underlying412
 a175:=Tryz.isAgg412
 z175:=Tryz.sizeOf412
 v175:=Tryz.zeroValue412
 t210:=Tryz.underlying416
 a210:=Tryz.isAgg416
 z210:=Tryz.sizeOf416
 v210:=Tryz.zeroValue416
 t212:=Tryz.underlying459
 a212:=Tryz.isAgg459
 z212:=Tryz.sizeOf459
 v212:=Tryz.zeroValue459
 t213:=Tryz.underlying460
 a213:=Tryz.isAgg460
 z213:=Tryz.sizeOf460
 t232:=Tryz.underlying39
 a232:=Tryz.isAgg39
 z232:=Tryz.sizeOf39
 v232:=Tryz.zeroValue39
 t233:=Tryz.underlying368
 a233:=Tryz.isAgg368
 z233:=Tryz.sizeOf368
 v233:=Tryz.zeroValue368
 g15:=by kernel_rfl
 g16:=by kernel_rfl
 g17:=by kernel_rfl
 g18:=by kernel_rfl
 g19:=by kernel_rfl
 t80:=Tryz.underlying482
 a80:=Tryz.isAgg482
 z80:=Tryz.sizeOf482
 v80:=Tryz.zeroValue482
 i0:=by kernel_rfl
 i2:=by kernel_rfl
 i3:=by kernel_rfl
 i4:=by kernel_rfl
 i5:=by kernel_rfl
 i9:=by kernel_rfl
 i20:=by kernel_rfl
 i21:=by kernel_rfl
 i37:=by kernel_rfl
 i46:=by kernel_rfl
 i51:=by kernel_rfl
 i53:=by kernel_rfl
 i75:=by kernel_rfl
 i76:=by kernel_rfl
 i80:=by kernel_rfl
 i85:=by kernel_rfl
 i127:=by kernel_rfl
 i143:=by kernel_rfl
 i145:=by kernel_rfl
 i167:=by kernel_rfl
 i168:=by kernel_rfl
 i171:=by kernel_rfl
 i173:=by kernel_rfl
 i175:=by kernel_rfl
 i210:=by kernel_rfl
 i212:=by kernel_rfl
 i232:=by kernel_rfl
 i233:=by kernel_rfl
 m15:=by kernel_rfl
 m16:=by kernel_rfl
 m17:=by kernel_rfl
 m18:=by kernel_rfl
 m19:=by kernel_rfl
 c0:=by kernel_rfl
 c2:=by kernel_rfl
 c3:=by kernel_rfl
 c4:=by kernel_rfl
 c5:=by kernel_rfl
 c9:=by kernel_rfl
 c20:=by kernel_rfl
 c21:=by kernel_rfl
 c37:=by kernel_rfl
 c46:=by kernel_rfl
 c51:=by kernel_rfl
 c53:=by kernel_rfl
 c75:=by kernel_rfl
 c76:=by kernel_rfl
 c80:=by kernel_rfl
 c85:=by kernel_rfl
 c127:=by kernel_rfl
 c143:=by kernel_rfl
 c145:=by kernel_rfl
 c167:=by kernel_rfl
 c168:=by kernel_rfl
 c171:=by kernel_rfl
 c173:=by kernel_rfl
 c175:=by kernel_rfl
 c210:=by kernel_rfl
 c212:=by kernel_rfl
 c213:=by kernel_rfl
 c232:=by kernel_rfl
 c233:=by kernel_rfl }
end Go.Proofs.YtpmhjnhgpplmnaaGreatDoor
end

section
namespace Go.Proofs.YtpmhjnhgpplmnaaGreatDoor
open Go Sx
set_option maxRecDepth 8000

def ql (w:World):Prop:=(∃t p,w.var? Tryz.prog "strconv.ErrSyntax" =some #[.iface t p])∧∃t p,w.var? Tryz.prog "strconv.ErrRange" =some #[.iface t p]
theorem Cq {w w':World} {s:String} {x:Array Value} (h:w.var? Tryz.prog s=some x) (hc:Chg [] w w'):w'.var? Tryz.prog s=some x:=by
 unfold World.var? at h ⊢
 cases hg:Tryz.prog.globalNamed s with
 | none=>rw [hg] at h;cases h
 | some g=>
   rw [hg] at h
   simp only [Option.bind_some] at h ⊢
   cases hh:w.heap[g]? with
   | none=>rw [hh] at h;simp at h
   | some o=>
     have hlt:=(Array.getElem?_eq_some_iff.1 hh).1
     rw [hc.block _ hlt (by simp),hh]
     rw [hh] at h
     exact h
theorem ql.au {w w':World} (h:ql w) (hc:Chg [] w w'):ql w':=by
 obtain ⟨⟨t,p,h1⟩,t2,p2,h2⟩:=h
 exact ⟨⟨t,p,Cq h1 hc⟩,t2,p2,Cq h2 hc⟩
theorem Kx {T:TypeId} {m} (hT:Tryz.prog.underlying T=some (.interface m)) (U:TypeId) (v:Value) (x:Operand) (w:World):(fF .neq T x (.const .nilIface) (.iface U v) .nilIface).run Tryz.prog w=.ok (.bool true) w:=by
 have h2:∀d U v,(Op.equalIn (d+1) T (.iface U v) .nilIface).run Tryz.prog w=.ok false w:=fun d U v=>by simp [Op.equalIn,run_underlying hT]
 simp [fF,eqGuard,binOp,Op.equal,show Op.maxDepth=9999+1 from rfl,h2 9999]
theorem EV (w:World) (e:TypeId) (s:ByteArray):Chg [] w (Lib.bytesWorld w e s):=by
 unfold Lib.bytesWorld
 have h1:Chg [] w (w.drew.alloc (.cells (Lib.bytesCells w e s) e)):=(Chg.drew [] w).trans (Chg.alloc _ _)
 have h2:Chg [w.heap.size] (w.drew.alloc (.cells (Lib.bytesCells w e s) e)) ((w.drew.alloc (.cells (Lib.bytesCells w e s) e)).freeze ⟨w.heap.size,(Lib.bytesCells w e s).size,none⟩ 1):=by
   refine ⟨by simp [World.freeze],by simp [World.freeze],by simp [World.freeze],by simp [World.freeze],fun k _ hk=>?_⟩
   simp only [World.freeze,Nat.succ_ne_zero,if_false,Array.getElem?_modify]
   rw [if_neg (by simpa using fun h=>hk (by simp [h]))]
 exact h1.trans' h2 (fun i hi=>.inl (by simp at hi;omega))
theorem Hv (l:List UInt8) (hl:l.length≤281474976710656) (w:World) (hE:ql w):
   Calls Tryz.prog 94 #[.string ⟨l.toArray⟩] w fun e w'=>Chg [] w w'∧((∃v,Lib.atoiAll l=.ok v∧e=.returned (.tuple #[.int .i64 v,.nilIface]))∨((∀v,Lib.atoiAll l≠ .ok v)∧∃v t p,e=.returned (.tuple #[.int .i64 v,.iface t p]))):=by
 have hsz:(⟨l.toArray⟩:ByteArray).size=l.length:=by show l.toArray.size=_;simp
 have hdl:(⟨l.toArray⟩:ByteArray).data.toList=l:=rfl
 obtain ⟨⟨t1,p1,h1⟩,t2,p2,h2⟩:=hE
 cases ha:Lib.atoiAll l with
 | ok v=>
   refine Calls.mono (Any.strconv_Atoi_ok xG ⟨l.toArray⟩ (by omega) v (by rw [hdl];exact ha) w) ?_
   rintro e w' ⟨rfl,hw⟩
   refine ⟨?_,.inl ⟨v,rfl,rfl⟩⟩
   rcases hw with rfl | ⟨t,rfl⟩
   · exact Chg.refl _ _
   · exact EV _ _ _
 | range=>
   refine Calls.mono (Any.strconv_Atoi_range_var xG ⟨l.toArray⟩ (by omega) (by rw [hdl];exact ha) t2 p2 w h2) ?_
   rintro e w' ⟨N,rfl,_,_,hb⟩
   exact ⟨Chg.wJ hb,.inr ⟨fun v h=>(by cases h),_,_,_,rfl⟩⟩
 | _=>
   refine Calls.mono (Any.strconv_Atoi_syntax_var xG ⟨l.toArray⟩ (by omega) (by rw [hdl];exact ha) t1 p1 w h1) ?_
   rintro e w' ⟨N,rfl,_,_,hb⟩
   exact ⟨Chg.wJ hb,.inr ⟨fun v h=>(by cases h),_,_,_,rfl⟩⟩
theorem N0 (a b:List UInt8) (x y:Operand) (w:World) (h:a.length+b.length≤9223372036854775807):(fF .add 9 x y (.string ⟨a.toArray⟩) (.string ⟨b.toArray⟩)).run Tryz.prog w=.ok (.string ⟨(a++b).toArray⟩) w:=by
 have h2:((⟨a.toArray⟩:ByteArray).size:Int)+((⟨b.toArray⟩:ByteArray).size:Int)≤9223372036854775807:=by
   have e1:(⟨a.toArray⟩:ByteArray).size=a.length:=by show a.toArray.size=_;simp
   have e2:(⟨b.toArray⟩:ByteArray).size=b.length:=by show b.toArray.size=_;simp
   omega
 have e:(ByteArray.mk a.toArray++ByteArray.mk b.toArray)=ByteArray.mk (a++b).toArray:=by
   apply ByteArray.ext
   simp [ByteArray.data_append]
 rw [←e]
 simp [fF,eqGuard,binOp,Op.stringOp,h2]
theorem Kc (l:List UInt8):((⟨l.toArray⟩:ByteArray).toList==(ByteArray.mk #[]).toList)=decide (l=[]):=by
 rw [ByteArray.toList_eq,ByteArray.toList_eq]
 cases l<;>simp
theorem NK (l m:List UInt8):((⟨l.toArray⟩:ByteArray).toList==(⟨m.toArray⟩:ByteArray).toList)=decide (l=m):=by
 rw [ByteArray.toList_eq,ByteArray.toList_eq]
 show (l==m)=decide (l=m)
 by_cases h:l=m<;>simp [h]

end Go.Proofs.YtpmhjnhgpplmnaaGreatDoor
end

section
namespace Go.Proofs.YtpmhjnhgpplmnaaGreatDoor
open Go Go.Proofs.YtpmhjnhgpplmnaaGreatDoor.Sx
set_option maxRecDepth 100000
variable (w:World) (R:Ending→World→Prop)
theorem pW (a:ByteArray) (h:∃(b:Int→World→Prop) (c:Int→World→Nat),b 0 w∧∀d e,b d e→Ifz (decide (d<(a.size:Int))) (∃f:Bool→World→Prop,(∃b,(Instr.index 9 (.string a) (.int .i64 d)).run Tryz.prog e=.ok (.int .u8 b) e∧Ifz (decide (b<(33:Int))) (f true e) (∃b,(Instr.index 9 (.string a) (.int .i64 d)).run Tryz.prog e=.ok (.int .u8 b) e∧f (decide (b>(126:Int))) e))∧∀a g,f a g→Ifz a (R (.returned (.bool false)) g) (b (IntKind.wrap .i64 (d+1)) g∧c (IntKind.wrap .i64 (d+1)) g<c d e)) (R (.returned (.bool (!(a.toList==(ByteArray.mk #[]).toList)&&decide ((a.size:Int)≤32)))) e)):Calls Tryz.prog 28 #[.string a] w R:=af 0x13bec2b001d30d13d0521dcd13d14112a11a191a22d8200321d011611e6222983d21d Tryz.func28 (by kernel_rfl) h
theorem l6 (a:Array Value) (h:Bxz 89 (.agg a) w fun a b=>Lsz 9 a 0 b fun c=>Cbz 28 #[.string c] b fun b c=>Ifz b (Liz 3 a 1 c (fun b=>Ifz (decide (b≥(-1099511627776:Int))) (Liz 3 a 1 c (fun b=>Ifz (decide (b≤(1099511627776:Int))) (Liz 3 a 2 c (fun b=>Ifz (decide (b≥(0:Int))) (Liz 3 a 3 c (fun b=>Ifz (decide (b≥(0:Int))) (Liz 3 a 3 c (fun a=>R (.returned (.bool (decide (a≤(65536:Int))))) c)) (R (.returned (.bool false)) c))) (R (.returned (.bool false)) c))) (R (.returned (.bool false)) c))) (R (.returned (.bool false)) c))) (R (.returned (.bool false)) c)):Calls Tryz.prog 106 #[.agg a] w R:=af 0x39202c201f201a20520e0313ace0312dce03128ce0311bce0316c1414531c017c Tryz.func106 (by kernel_rfl) h
theorem uv (a:Array Value) (h:Bxz 47 (.agg a) w fun a b=>∃c:Bool→World→Prop,Liz 3 a 0 b (fun d=>Ifz (decide (d<(1:Int))) (c true b) (Liz 3 a 0 b (fun d=>Ifz (decide (d>(1099511627776:Int))) (c true b) (Liz 3 a 1 b (fun d=>Ifz (decide (d<(0:Int))) (c true b) (Liz 3 a 1 b (fun d=>Ifz (decide (d>(1099511627776:Int))) (c true b) (Laz 44 a 2 b (fun d=>Cvv 105 #[.agg d] b fun b d=>Nez .neq 58 (.tmp 29) b d fun b=>Ifz b (c true d) (Llz 25 a 7 d (fun b e f=>Ifz (decide ((e:Int)>64)) (c true d) (Llz 45 a 8 d (fun a b e=>c (decide ((b:Int)>1024)) d)))))))))))))∧∀b d,c b d→Ifz b (R (.returned (.iface 65 (.int .i64 28))) d) (Llz 25 a 7 d (fun b c e=>∃(e:Int→World→Prop) (f:Int→World→Nat),e 0 d∧∀d g,e d g→Ifz (decide (d<(c:Int))) (∃h i,b=some ⟨h,i,none⟩∧0≤d∧d<(c:Int)∧Laz 89 h (i+Int.toNat d*36) g fun b=>Alz 89 g fun c h=>Stz 89 c 0 (.agg b) h fun b=>∃h:Bool→World→Prop,(∃e:World→Prop,e b.drew∧∃f,(∀a,e a→LdQ 89 c 0 (.agg f) a)∧Cbz 106 #[.agg f] b.drew fun b f=>∃g:World→Prop,(∀a,g a→e a)∧g f∧Ifz (!b) (h true f) (Ifz (decide (d>(0:Int))) (∃b e i,(∀c,g c→LdQ 25 a 7 (.slice b e i) c)∧∃a i,b=some ⟨a,i,none⟩∧0≤IntKind.wrap .i64 (d- (1:Int))∧IntKind.wrap .i64 (d- (1:Int))<(e:Int)∧∃b,(∀c,g c→LdQ 9 a (i+Int.toNat (IntKind.wrap .i64 (d- (1:Int)))*36) (.string b) c)∧∃a,(∀b,g b→LdQ 9 c 0 (.string a) b)∧∃c,(∀d,g d→(fF .geq 9 (.tmp 66) (.tmp 68) (.string b) (.string a)).run Tryz.prog d=.ok (.bool c) d)∧h c f) (h false f)))∧∀a b,h a b→Ifz a (R (.returned (.iface 65 (.int .i64 28))) b) (e (IntKind.wrap .i64 (d+1)) b∧f (IntKind.wrap .i64 (d+1)) b<f d g)) (Llz 45 a 8 g (fun b c d=>∃(d:Int→Int→World→Prop) (e:Int→Int→World→Nat),d (-1) 0 g∧∀f g h,d f g h→Ifz (decide (g<(c:Int))) (∃i j,b=some ⟨i,j,none⟩∧0≤g∧g<(c:Int)∧Laz 91 i (j+Int.toNat g*3) h fun b=>Alz 91 h fun c i=>Stz 91 c 0 (.agg b) i fun b=>∃i:Bool→World→Prop,Liz 3 c 0 b (fun d=>Ifz (decide (d≤f)) (i true b) (Liz 3 c 0 b (fun d=>Liz 3 a 1 b fun a=>Ifz (decide (d≥a)) (i true b) (Liz 3 c 1 b (fun a=>Ifz (decide (a<(0:Int))) (i true b) (Liz 3 c 2 b (fun a=>i (decide (a<(0:Int))) b)))))))∧∀a b,i a b→Ifz a (R (.returned (.iface 65 (.int .i64 28))) b) (Liz 3 c 0 b (fun a=>d a (IntKind.wrap .i64 (g+1)) b∧e a (IntKind.wrap .i64 (g+1)) b<e f g h))) (R (.returned .nilIface) h)))))):Calls Tryz.prog 38 #[.agg a] w R:=af 0x1d2b010311002d30d0310421c9ce03101921bcce03103102821adce03114111cd12d1a91a22067838c8200321d002119d1523d19d1715124980d731c21d2b002d3002a2922928391f391d31c1b2291831e1a1974202a2922428351f351d301c151b171831e1a197427b56543202a2922928391f391d31c1b2291831e1a19765472785322241814803541118f12b6d1a206178381c8200321d0116813a68322980d731c2002d30e7310524ec4273101b248cd4391483102923ace03102e22dce03103b228ce03104821bcd03114115b14c181a22017c Tryz.func38 (by kernel_rfl) h
theorem nH (a b:Nat) (c:Option Addr) (d e:Nat) (h:∃(e:Int→World→Prop) (f:Int→World→Nat),e 0 w∧∀g h,e g h→Ifz (decide (g<(d:Int))) (∃i j,c=some ⟨i,j,none⟩∧0≤g∧g<(d:Int)∧Liz 3 i (j+Int.toNat g*1) h fun c=>∃d:World→Prop,d h.drew∧∃i j k,(∀c,d c→LdQ 185 a b (.slice i j k) c)∧Clz 197 #[.int .i64 c] h.drew fun c l m n=>∃o:World→Prop,(∀a,o a→d a)∧o n∧∃d p q r,(Builtin.append_ #[185,26] 185 #[.slice i j k,.slice c l m]).run Tryz.prog n=.ok (.slice d p q) r∧∃c:World→Prop,(∀a,c a→o a)∧c r∧Stz 185 a b (.slice d p q) r fun a=>e (IntKind.wrap .i64 (g+1)) a∧f (IntKind.wrap .i64 (g+1)) a<f g h) (R (.returned (.tuple #[])) h)):Calls Tryz.prog 99 #[.pointer (some ⟨a,b,none⟩),.slice c d e] w R:=af 0x2b118104184071726471854733421042501038c8200321d0111811d18152983d Tryz.func99 (by kernel_rfl) h
theorem nK (a b:Nat) (c:Option Addr) (d e:Nat) (h:∃(e:Int→World→Prop) (f:Int→World→Nat),e 0 w∧∀g h,e g h→Ifz (decide (g<(d:Int))) (∃i j,c=some ⟨i,j,none⟩∧0≤g∧g<(d:Int)∧Liz 3 i (j+Int.toNat g*1) h fun c=>∃d:World→Prop,d h.drew∧∃i j k,(∀c,d c→LdQ 185 a b (.slice i j k) c)∧Clz 196 #[.int .i64 c] h.drew fun c l m n=>∃o:World→Prop,(∀a,o a→d a)∧o n∧∃d p q r,(Builtin.append_ #[185,26] 185 #[.slice i j k,.slice c l m]).run Tryz.prog n=.ok (.slice d p q) r∧∃c:World→Prop,(∀a,c a→o a)∧c r∧Stz 185 a b (.slice d p q) r fun a=>e (IntKind.wrap .i64 (g+1)) a∧f (IntKind.wrap .i64 (g+1)) a<f g h) (R (.returned (.tuple #[])) h)):Calls Tryz.prog 98 #[.pointer (some ⟨a,b,none⟩),.slice c d e] w R:=af 0x2b118104184071726471854733421042501038c8200321d0111811d18152983d Tryz.func98 (by kernel_rfl) h
theorem sR (a b:Array Value) (h:Bxz 41 (.agg a) w fun a c=>Bxz 47 (.agg b) c fun b c=>Laz 47 b 0 c fun d=>Cvv 38 #[.agg d] c fun c d=>Nez .neq 58 (.tmp 14) c d fun e=>Ifz e (R (.returned (.tuple #[.slice none 0 0,c])) d) (Alz 185 d (fun c d=>Liz 3 b 0 d fun e=>Liz 3 b 1 d fun f=>Lkz .u64 42 b 2 d fun g=>Bsz 29 3 #[(0,.int .i64 e),(1,.int .i64 f),(2,.int .i64 (IntKind.wrap .i64 g))] d fun d e f g=>Calls Tryz.prog 98 #[.pointer (some ⟨c,0,none⟩),.slice d e f] g fun d e=>d=.returned (.tuple #[])∧Liz 3 b 3 e fun d=>Liz 3 b 4 e fun f=>Liz 3 b 5 e fun g=>Liz 3 b 6 e fun h=>Llz 25 b 7 e fun i j k=>Bsz 29 5 #[(0,.int .i64 d),(1,.int .i64 f),(2,.int .i64 g),(3,.int .i64 h),(4,.int .i64 (j:Int))] e fun d e f g=>Calls Tryz.prog 99 #[.pointer (some ⟨c,0,none⟩),.slice d e f] g fun d e=>d=.returned (.tuple #[])∧Llz 25 b 7 e fun d f g=>∃(g:Int→World→Prop) (h:Int→World→Nat),g 0 e∧∀e i,g e i→Ifz (decide (e<(f:Int))) (∃a b,d=some ⟨a,b,none⟩∧0≤e∧e<(f:Int)∧Laz 89 a (b+Int.toNat e*36) i fun a=>Alz 89 i fun b d=>Stz 89 b 0 (.agg a) d fun a=>∃d:World→Prop,d a.drew∧∃f j k,(∀a,d a→LdQ 185 c 0 (.slice f j k) a)∧∃l,(∀a,d a→LdQ 9 b 0 (.string l) a)∧Cvz 9 26 (.string l) a.drew fun a l m n=>∃o:World→Prop,(∀a,o a→d a)∧o n∧Bsz 24 1 #[(0,.slice a l m)] n fun a d l m=>∃n:World→Prop,(∀a,n a→o a)∧n m∧Clz 100 #[.slice a d l] m fun a d l m=>∃o:World→Prop,(∀a,o a→n a)∧o m∧∃n p q r,(Builtin.append_ #[185,26] 185 #[.slice f j k,.slice a d l]).run Tryz.prog m=.ok (.slice n p q) r∧∃a:World→Prop,(∀b,a b→o b)∧a r∧Stz 185 c 0 (.slice n p q) r fun a=>Liz 3 b 1 a fun d=>Bsz 29 1 #[(0,.int .i64 d)] a fun a d f j=>Calls Tryz.prog 98 #[.pointer (some ⟨c,0,none⟩),.slice a d f] j fun a d=>a=.returned (.tuple #[])∧Liz 3 b 2 d fun a=>Liz 3 b 3 d fun f=>Bsz 29 2 #[(0,.int .i64 a),(1,.int .i64 f)] d fun a d f j=>Calls Tryz.prog 99 #[.pointer (some ⟨c,0,none⟩),.slice a d f] j fun a d=>a=.returned (.tuple #[])∧∃a:World→Prop,a d.drew∧0≤(32:Int)∧(32:Int)≤32∧∃f j k,(∀b,a b→LdQ 185 c 0 (.slice f j k) b)∧∃l m n o,(Builtin.append_ #[185,26] 185 #[.slice f j k,.slice (some ⟨b,4,none⟩) 32 32]).run Tryz.prog d.drew=.ok (.slice l m n) o∧∃b:World→Prop,(∀c,b c→a c)∧b o∧Stz 185 c 0 (.slice l m n) o fun a=>g (IntKind.wrap .i64 (e+1)) a∧h (IntKind.wrap .i64 (e+1)) a<h e i) (Llz 45 b 8 i (fun d e f=>Bsz 29 1 #[(0,.int .i64 (e:Int))] i fun d e f g=>Calls Tryz.prog 99 #[.pointer (some ⟨c,0,none⟩),.slice d e f] g fun d e=>d=.returned (.tuple #[])∧Llz 45 b 8 e fun b d f=>∃(f:Int→World→Prop) (g:Int→World→Nat),f 0 e∧∀e h,f e h→Ifz (decide (e<(d:Int))) (∃a i,b=some ⟨a,i,none⟩∧0≤e∧e<(d:Int)∧Laz 91 a (i+Int.toNat e*3) h fun a=>Alz 91 h fun b d=>Stz 91 b 0 (.agg a) d fun a=>Liz 3 b 0 a fun d=>Liz 3 b 1 a fun i=>Liz 3 b 2 a fun b=>Bsz 29 3 #[(0,.int .i64 d),(1,.int .i64 i),(2,.int .i64 b)] a fun a b d i=>Calls Tryz.prog 99 #[.pointer (some ⟨c,0,none⟩),.slice a b d] i fun a b=>a=.returned (.tuple #[])∧f (IntKind.wrap .i64 (e+1)) b∧g (IntKind.wrap .i64 (e+1)) b<g e h) (Laz 41 a 0 h (fun a=>Bsz 26 7 #[(0,.int .u8 99),(1,.int .u8 97),(2,.int .u8 116),(3,.int .u8 97),(4,.int .u8 108),(5,.int .u8 111),(6,.int .u8 103)] h fun b d e f=>Cvz 26 26 (.slice b d e) f fun b d e f=>Llz 185 c 0 f fun c g h=>Clz 101 #[.agg a,.int .u8 4,.slice b d e,.slice c g h] f fun a b c d=>R (.returned (.tuple #[.slice a b c,.nilIface])) d))))))):Calls Tryz.prog 35 #[.agg a,.agg b] w R:=af 0xd71473757583c2b004750310310311067838c8200321d0111a911d1a911b2980d731c2004751731c2b14104447234703621011500475031031c00475031c17104747264718547244723452370301152067838c8200321d0115f13a5f1192980d731c200475173103d03d03d03dc00475133d031031c07c003d30431c0191483c20d77c Tryz.func35 (by kernel_rfl) h
theorem wm (a:Int) (h:Ifz (decide (a<(1:Int))||decide (a>(1099511627776:Int))) (R (.returned (.string (ByteArray.mk #[]))) w) (Csz 95 #[.int .i64 a] w (fun a b=>∃c,(fF .add 9 (.const (.string (ByteArray.mk #[99]))) (.tmp 10) (.string (ByteArray.mk #[99])) (.string a)).run Tryz.prog b=.ok (.string c) b∧R (.returned (.string c)) b))):Calls Tryz.prog 30 #[.int .i64 a] w R:=af 0x1535141c001d302bec21d Tryz.func30 (by kernel_rfl) h
theorem xX (a:ByteArray) (h:Ifz (a.toList==(ByteArray.mk #[]).toList) (R (.returned (.tuple #[.int .i64 0,.bool false])) w) (0≤(1:Int)∧1≤(a.size:Int)∧Calls Tryz.prog 94 #[.string (a.extract (Int.toNat (1:Int)) a.size)] w fun b c=>∃d e,b=.returned (.tuple #[.int .i64 d,e])∧∃b:Bool→World→Prop,Nez .neq 58 (.tmp 14) e c (fun e=>Ifz e (b true c) (Csz 30 #[.int .i64 d] c (fun c d=>b (!(c.toList==a.toList)) d)))∧∀a c,b a c→Ifz a (R (.returned (.tuple #[.int .i64 0,.bool false])) c) (R (.returned (.tuple #[.int .i64 d,.bool true])) c))):Calls Tryz.prog 26 #[.string a] w R:=af 0x3d002d30e514105228c143114112d1181e1a22052902491c002d32d22d Tryz.func26 (by kernel_rfl) h
theorem we (a b:Nat) (c:ByteArray) (d:Value) (h:Bxz 51 (.pointer (some ⟨a,b,none⟩)) w fun a b=>Bxz 9 (.string c) b fun b c=>∃e f,(Instr.makeFunc (.func 262) #[] #[.pointer (some ⟨a,0,none⟩),.pointer (some ⟨b,0,none⟩)]).run Tryz.prog c=.ok e f∧Lpz 51 a 0 f fun a b=>∃c g,(Instr.makeFunc (.func 84) #[.pointer (some ⟨a,b,none⟩)] #[]).run Tryz.prog f=.ok c g∧Buz 355 #[(0,e),(1,c)] g fun a=>∃(b:Int→World→Prop) (c:Int→World→Nat),b 0 g∧∀e f,b e f→Ifz (decide (e<(2:Int))) (∃d,(Instr.index 355 (.agg a) (.int .i64 e)).run Tryz.prog f=.ok d f∧∃(a:Nat) (g:List Value) (h:List Value),d=.func (.func a) ⟨g⟩ ⟨h⟩∧gG Tryz.prog a=true∧Calls Tryz.prog a (g++([]:List Value)++h).toArray f fun a d=>∃g,a=.returned g∧Cbz 90 #[g,.iface 65 (.int .i64 1)] d fun a d=>Ifz a (R (.returned g) d) (Nez .neq 58 (.tmp 23) g d (fun a=>Ifz a (R (.returned (.iface 65 (.int .i64 22))) d) (b (IntKind.wrap .i64 (e+1)) d∧c (IntKind.wrap .i64 (e+1)) d<c e f)))) (R (.returned d) f)):Calls Tryz.prog 191 #[.pointer (some ⟨a,b,none⟩),.string c,d] w R:=af 0x2d2b002d30431c02d30414dc0191ca1c0193c8200321d0111e11d1e218163980183956395c20177c Tryz.func191 (by kernel_rfl) h
theorem rX (a b c d:Nat) (h:Lpz 51 a b w fun a b=>Lsz 9 c d w fun c=>Cvv 89 #[.pointer (some ⟨a,b,none⟩),.string c] w fun a b=>R (.returned a) b):Calls Tryz.prog 262 #[.pointer (some ⟨a,b,none⟩),.pointer (some ⟨c,d,none⟩)] w R:=af 0x19145363c1d Tryz.func262 (by kernel_rfl) h
theorem rT (a b:Nat) (c d:Array Value) (h:Bxz 51 (.pointer (some ⟨a,b,none⟩)) w fun a b=>Bxz 41 (.agg c) b fun b c=>Bxz 47 (.agg d) c fun c d=>Laz 41 b 0 d fun b=>Laz 47 c 0 d fun e=>C4z 35 #[.agg b,.agg e] d fun b d e f g=>Alz 26 g fun g h=>Stz 26 g 0 (.slice b d e) h fun b=>Nez .neq 58 (.tmp 20) f b fun d=>Ifz d (R (.returned f) b) (Lpz 51 a 0 b (fun d e=>Clz 80 #[.pointer (some ⟨d,e,none⟩)] b fun b d e f=>Cbz 88 #[.slice b d e,.string (ByteArray.mk #[116])] f fun b d=>∃e:World→Prop,Ifz b (Lpz 51 a 0 d (fun a b=>Cvv 89 #[.pointer (some ⟨a,b,none⟩),.string (ByteArray.mk #[116])] d fun a b=>Nez .neq 58 (.tmp 28) a b fun c=>Ifz c (R (.returned a) b) (e b))) (e d)∧∀b,e b→Liz 3 c 0 b fun c=>Csz 30 #[.int .i64 c] b fun b c=>Alz 9 c fun c d=>Stz 9 c 0 (.string b) d fun b=>∃d e,(Instr.makeFunc (.func 186) #[] #[.pointer (some ⟨a,0,none⟩)]).run Tryz.prog b=.ok d e∧∃b f,(Instr.makeFunc (.func 187) #[] #[.pointer (some ⟨a,0,none⟩),.pointer (some ⟨g,0,none⟩)]).run Tryz.prog e=.ok b f∧∃e g,(Instr.makeFunc (.func 188) #[] #[.pointer (some ⟨a,0,none⟩)]).run Tryz.prog f=.ok e g∧Lpz 51 a 0 g fun f h=>∃i j,(Instr.makeFunc (.func 84) #[.pointer (some ⟨f,h,none⟩)] #[]).run Tryz.prog g=.ok i j∧∃f g,(Instr.makeFunc (.func 189) #[] #[.pointer (some ⟨a,0,none⟩),.pointer (some ⟨c,0,none⟩)]).run Tryz.prog j=.ok f g∧Buz 279 #[(0,d),(1,b),(2,e),(3,i),(4,f)] g fun b=>∃(d:Int→World→Prop) (e:Int→World→Nat),d 0 g∧∀f g,d f g→Ifz (decide (f<(5:Int))) (∃a,(Instr.index 279 (.agg b) (.int .i64 f)).run Tryz.prog g=.ok a g∧∃(b:Nat) (c:List Value) (h:List Value),a=.func (.func b) ⟨c⟩ ⟨h⟩∧gG Tryz.prog b=true∧Calls Tryz.prog b (c++([]:List Value)++h).toArray g fun a b=>∃c,a=.returned c∧Nez .neq 58 (.tmp 46) c b fun a=>Ifz a (R (.returned c) b) (d (IntKind.wrap .i64 (f+1)) b∧e (IntKind.wrap .i64 (f+1)) b<e f g)) (Lpz 51 a 0 g (fun b d=>Cvv 84 #[.pointer (some ⟨b,d,none⟩)] g fun b d=>∃e:Bool→World→Prop,Nez .eql 58 (.tmp 52) b d (fun a=>Ifz a (e true d) (Cbz 90 #[b,.iface 65 (.int .i64 1)] d (fun a b=>e a b)))∧∀d f,e d f→Ifz d (R (.returned b) f) (Lpz 51 a 0 f (fun a d=>Lsz 9 c 0 f fun c=>Cvv 191 #[.pointer (some ⟨a,d,none⟩),.string c,b] f fun a b=>R (.returned a) b))))))):Calls Tryz.prog 92 #[.pointer (some ⟨a,b,none⟩),.agg c,.agg d] w R:=af 0x191415363c002d301414d0426ec143114117a176c1a220191463c2b002d30431c0191ca1c0193c8200321d011591195921c163980183959563959595c2067514031c0002d30431c0191463c30053a119163a041471463c2002d30431c20167e97248383c01777c Tryz.func92 (by kernel_rfl) h
theorem p5 (a b:Nat) (h:Lpz 51 a b w fun a b=>Cvv 144 #[.pointer (some ⟨a,b,none⟩),.string (ByteArray.mk #[116])] w fun a b=>R (.returned a) b):Calls Tryz.prog 186 #[.pointer (some ⟨a,b,none⟩)] w R:=af 0x191463c1d Tryz.func186 (by kernel_rfl) h
theorem p8 (a b c d:Nat) (h:Lpz 51 a b w fun a b=>Llz 26 c d w fun c d e=>Bsz 24 1 #[(0,.slice c d e)] w fun c d e f=>Cvv 145 #[.pointer (some ⟨a,b,none⟩),.string (ByteArray.mk #[116]),.slice c d e] f fun a b=>R (.returned a) b):Calls Tryz.prog 187 #[.pointer (some ⟨a,b,none⟩),.pointer (some ⟨c,d,none⟩)] w R:=af 0x1914757363c1d Tryz.func187 (by kernel_rfl) h
theorem pS (a b:Nat) (h:Lpz 51 a b w fun a b=>Cvv 146 #[.pointer (some ⟨a,b,none⟩),.string (ByteArray.mk #[116])] w fun a b=>R (.returned a) b):Calls Tryz.prog 188 #[.pointer (some ⟨a,b,none⟩)] w R:=af 0x191463c1d Tryz.func188 (by kernel_rfl) h
theorem qd (a b c d:Nat) (h:Lpz 51 a b w fun a b=>Lsz 9 c d w fun c=>Cvv 190 #[.pointer (some ⟨a,b,none⟩),.string (ByteArray.mk #[116]),.string c] w fun a b=>R (.returned a) b):Calls Tryz.prog 189 #[.pointer (some ⟨a,b,none⟩),.pointer (some ⟨c,d,none⟩)] w R:=af 0x19145363c1d Tryz.func189 (by kernel_rfl) h
theorem wo (a:Array Value) (h:Bxz 47 (.agg a) w fun a b=>Alz 47 b fun b c=>∃d:World→Prop,d c.drew∧∃e f g,(∀b,d b→LdQ 25 a 7 (.slice e f g) b)∧∃h i j,(∀b,d b→LdQ 45 a 8 (.slice h i j) b)∧Clz 109 #[.slice e f g] c.drew fun c e f g=>∃k:World→Prop,(∀a,k a→d a)∧k g∧Clz 110 #[.slice h i j] g fun d g h i=>∃j:World→Prop,(∀a,j a→k a)∧j i∧Stz 25 a 7 (.slice c e f) i fun c=>Stz 45 a 8 (.slice d g h) c fun c=>Laz 47 a 0 c fun a=>Stz 47 b 0 (.agg a) c fun a=>∃c,(loadVar 47 ⟨b,0,none⟩).run Tryz.prog a=.ok c a∧R (.returned c) a):Calls Tryz.prog 40 #[.agg a] w R:=af 0x683c3710419401814747185406171824743713302252077c Tryz.func40 (by kernel_rfl) h
theorem eV (a:Option Addr) (b c:Nat) (h:Ifz a.isNone (R (.returned (.slice none 0 0)) w) (Bsz 25 0 #[] w (fun d e f g=>Apz 25 (.slice d e f) (.slice a b c) g fun a b c d=>R (.returned (.slice a b c)) d))):Calls Tryz.prog 109 #[.slice a b c] w R:=af 0x175175c001d32d21d Tryz.func109 (by kernel_rfl) h
theorem gR (a:Option Addr) (b c:Nat) (h:Ifz a.isNone (R (.returned (.slice none 0 0)) w) (Bsz 45 0 #[] w (fun d e f g=>Apz 45 (.slice d e f) (.slice a b c) g fun a b c d=>R (.returned (.slice a b c)) d))):Calls Tryz.prog 110 #[.slice a b c] w R:=af 0x175175c001d32d21d Tryz.func110 (by kernel_rfl) h
theorem gX (a:Option Addr) (b c:Nat) (d:ByteArray) (h:Ciz 183 #[.slice a b c,.string d] w fun a b=>R (.returned (.bool (decide (a≥(0:Int))))) b):Calls Tryz.prog 88 #[.slice a b c,.string d] w R:=af 0xd014dc1d Tryz.func88 (by kernel_rfl) h
theorem jd (a:Option Addr) (b c:Nat) (d:ByteArray) (h:∃(c:Int→World→Prop) (e:Int→World→Nat),c 0 w∧∀f g,c f g→Ifz (decide (f<(b:Int))) (∃h i,a=some ⟨h,i,none⟩∧0≤f∧f<(b:Int)∧Lsz 9 h (i+Int.toNat f*1) g fun a=>Ifz (d.toList==a.toList) (R (.returned (.int .i64 f)) g) (c (IntKind.wrap .i64 (f+1)) g∧e (IntKind.wrap .i64 (f+1)) g<e f g)) (R (.returned (.int .i64 (-1))) g)):Calls Tryz.prog 183 #[.slice a b c,.string d] w R:=af 0x1d2b002d301538ec2d8200321d0111811b18242983d21d Tryz.func183 (by kernel_rfl) h
end Go.Proofs.YtpmhjnhgpplmnaaGreatDoor
end

section
namespace Go.Proofs.YtpmhjnhgpplmnaaGreatDoor
open Go Sx
set_option maxRecDepth 8000

def Au (n:Int):Bool:=decide (1≤n∧n≤1099511627776)
theorem jP {n:Int} :Au n=true↔1≤n∧n≤1099511627776:=by simp [Au]
theorem Ia (c:UInt8) (r:List UInt8):(⟨(c::r).toArray⟩:ByteArray).extract 1 (⟨(c::r).toArray⟩:ByteArray).size=⟨r.toArray⟩:=by
 apply ByteArray.ext
 rw [ByteArray.data_extract]
 apply Array.ext'
 have:(⟨(c::r).toArray⟩:ByteArray).size=r.length+1:=by show (c::r).toArray.size=_;simp
 rw [this]
 simp
theorem Ks (l:List UInt8):((⟨l.toArray⟩:ByteArray).size:Int)=(l.length:Int):=by show ((l.toArray.size:Nat):Int)=_;simp

theorem nk (n:Int) (hb: -9223372036854775808≤n∧n≤9223372036854775807) (w:World) (hT:iE w):Calls Tryz.prog 30 #[.int .i64 n] w fun e w'=>e=.returned (aK (if Au n then aW 99 n else []))∧Chg [] w w':=by
 apply wm
 refine ⟨fun h=>?_,fun h=>?_⟩
 · have:Au n=false:=by
     rw [Bool.eq_false_iff]
     intro hg
     have:=jP.1 hg
     simp at h;omega
   rw [this];exact ⟨rfl,Chg.refl _ _⟩
 · have hn:1≤n∧n≤1099511627776:=by simp at h;omega
   rw [jP.2 hn]
   refine (Ae n hb w hT).mono ?_
   rintro e w1 ⟨rfl,c1⟩
   have hl:=Lib.itoa_length_le n (by omega) (by omega)
   exact ⟨_,rfl,_,N0 [99] (Lib.itoa n) _ _ w1 (by simp;omega),rfl,c1⟩
theorem Cf (s:List UInt8) (hs:s.length≤281474976710656) (w:World) (hT:iE w) (hE:ql w):Calls Tryz.prog 26 #[aK s] w fun e w'=>e=.returned (.tuple #[.int .i64 ((zb 99 1 1099511627776 s).getD 0),.bool (zb 99 1 1099511627776 s).isSome])∧Chg [] w w':=by
 obtain ⟨mI,hI⟩:=eI
 apply xX
 rw [Kc]
 refine ⟨fun h=>?_,fun h=>?_⟩
 · have:s=[]:=by simpa using h
   subst this
   exact ⟨rfl,Chg.refl _ _⟩
 cases s with
 | nil=>simp at h
 | cons c r=>
 have hx:(⟨(c::r).toArray⟩:ByteArray).extract (Int.toNat 1) (⟨(c::r).toArray⟩:ByteArray).size=⟨r.toArray⟩:=Ia c r
 have hlen:(c::r).length=r.length+1:=rfl
 rw [hx]
 refine ⟨by omega,by rw [Ks,hlen];omega,(Hv r (by omega) w hE).mono ?_⟩
 rintro e w1 ⟨c1,⟨v,hv,rfl⟩ | ⟨hbad,v,t,p,rfl⟩⟩
 · have hvb:=Lib.atoiAll_bounds hv
   refine ⟨_,_,rfl,fun x w'=>x= !decide (1≤v∧v≤1099511627776∧aW 99 v=c::r)∧Chg [] w w',⟨_,az hI none _ _,fun h=>by simp at h,fun _=>(nk v (by omega) w1 (hT.au c1)).mono ?_⟩,?_⟩
   · rintro e w2 ⟨rfl,c2⟩
     refine ⟨_,rfl,?_,c1.trans c2⟩
     rw [NK]
     congr 1
     cases hg:Au v with
     | true=>
       have:=jP.1 hg
       simp [this.1,this.2]
     | false=>
       have:¬(1≤v∧v≤1099511627776):=fun h=>by rw [jP.2 h] at hg;cases hg
       simp only [Bool.false_eq_true,if_false]
       have h2:¬(1≤v∧v≤1099511627776∧aW 99 v=c::r):=fun h=>this ⟨h.1,h.2.1⟩
       simp [h2]
   · rintro x w3 ⟨rfl,c3⟩
     have hn:zb 99 1 1099511627776 (c::r)=if 1≤v∧v≤1099511627776∧aW 99 v=c::r then some v else none:=by unfold zb;simp only [hv]
     refine ⟨fun h=>⟨?_,c3⟩,fun h=>⟨?_,c3⟩⟩
     · have:¬(1≤v∧v≤1099511627776∧aW 99 v=c::r):=of_decide_eq_false (by rwa [Bool.not_eq_true'] at h)
       rw [hn,if_neg this];rfl
     · have:1≤v∧v≤1099511627776∧aW 99 v=c::r:=of_decide_eq_true (by rwa [Bool.not_eq_false'] at h)
       rw [hn,if_pos this];rfl
 · have hn:zb 99 1 1099511627776 (c::r)=none:=by
     unfold zb
     cases ha:Lib.atoiAll r with
     | ok u=>exact absurd ha (hbad u)
     | range=>simp only [ha]
     | _=>simp only [ha]
   rw [hn]
   refine ⟨_,_,rfl,fun x w'=>x=true∧w'=w1,⟨_,Kx hI _ _ _ _,fun _=>⟨rfl,rfl⟩,fun h=>by cases h⟩,?_⟩
   rintro x w3 ⟨rfl,rfl⟩
   exact ⟨fun _=>⟨rfl,c1⟩,fun h=>(by cases h)⟩

theorem N6 {l:List UInt8} {i:Nat} (hi:i<l.length) (w:World):(Instr.index 9 (.string ⟨l.toArray⟩) (.int .i64 (i:Int))).run Tryz.prog w=.ok (.int .u8 ((l.getD i 0).toNat:Int)) w:=by
 have h1:(⟨l.toArray⟩:ByteArray)[i]?=some (l.getD i 0):=by
   have h2:i<(⟨l.toArray⟩:ByteArray).size:=by show i<l.toArray.size;simpa using hi
   rw [getElem?_pos _ i h2]
   show some (l.toArray[i]'(by simpa using hi))=_
   simp [List.getD,hi]
 have h0:(0:Int)≤(i:Int):=by omega
 simp only [Instr.index,Sem.run_bind,asIntOf,Sem.run_pure,run_underlying sS,Result.andThen_ok,h0,if_true,Int.toNat_natCast,h1]

end Go.Proofs.YtpmhjnhgpplmnaaGreatDoor
end

section
namespace Go.Proofs.YtpmhjnhgpplmnaaGreatDoor.Gf2

def aG (a b:Nat):Nat:=if h:b=0 then 0 else (if b%2=1 then a else 0)^^^(2*aG a (b / 2))
termination_by b
decreasing_by exact Nat.div_lt_self (Nat.pos_of_ne_zero h) (by decide)

theorem je {P:Nat→Prop} (h0:P 0) (h:∀b,b≠0→P (b / 2)→P b):∀b,P b:=fun b=>by
 induction b using Nat.strongRecOn with
 | ind b ih=>
   by_cases hb:b=0
   · rw [hb];exact h0
   · exact h b hb (ih _ (Nat.div_lt_self (Nat.pos_of_ne_zero hb) (by decide)))

@[simp] theorem Ng (a:Nat):aG a 0=0:=by rw [aG];simp
theorem bX (a b:Nat):aG a b=(if b%2=1 then a else 0)^^^(2*aG a (b / 2)):=by
 by_cases hb:b=0
 · subst hb;simp
 · rw [aG,dif_neg hb]
@[simp] theorem yE (a:Nat):aG a 1=a:=by rw [bX];simp
theorem BT (x y:Nat):2*(x^^^y)=(2*x)^^^(2*y):=by
 have:=Nat.shiftLeft_xor_distrib (a:=x) (b:=y) (i:=1)
 simpa [Nat.shiftLeft_eq,Nat.mul_comm] using this
theorem kI (a b:Nat):aG a (2*b)=2*aG a b:=by
 rw [bX];simp
@[simp] theorem Nh (b:Nat):aG 0 b=0:=by
 induction b using je with
 | h0=>simp
 | h b _ ih=>rw [bX,ih];simp
theorem DD (a b c d:Nat):(a^^^b)^^^(c^^^d)=(a^^^c)^^^(b^^^d):=by
 rw [Nat.xor_assoc,Nat.xor_assoc,←Nat.xor_assoc b,Nat.xor_comm b c,Nat.xor_assoc]
theorem eX (a c b:Nat):aG (a^^^c) b=aG a b^^^aG c b:=by
 induction b using je with
 | h0=>simp
 | h b _ ih=>
   rw [bX (a^^^c),bX a,bX c,ih,BT,DD]
   congr 1
   split<;>simp
theorem Jb (a b:Nat):aG (2*a) b=2*aG a b:=by
 induction b using je with
 | h0=>simp
 | h b _ ih=>
   rw [bX (2*a),bX a,ih,BT]
   congr 1
   split<;>simp
theorem ur (b:Nat):b=(if b%2=1 then 1 else 0)^^^(2*(b / 2)):=by
 refine Nat.eq_of_testBit_eq fun i=>?_
 rw [Nat.testBit_xor]
 cases i with
 | zero=>
   simp only [Nat.testBit_zero]
   rcases Nat.mod_two_eq_zero_or_one b with h | h<;>simp [h]
 | succ i=>
   rw [Nat.testBit_succ,Nat.testBit_succ (2*(b / 2)),Nat.mul_div_cancel_left _ (by decide:0<2)]
   split<;>simp [Nat.testBit_succ]
theorem gy (a b c:Nat):aG a (b^^^c)=aG a b^^^aG a c:=by
 induction b using je generalizing c with
 | h0=>simp
 | h b _ ih=>
   rw [bX a (b^^^c),bX a b,bX a c,Nat.xor_div_two,ih,BT,DD]
   congr 1
   have hx:decide ((b^^^c)%2=1)=(decide (b%2=1)^^decide (c%2=1)):=by
     rw [←Nat.testBit_zero,←Nat.testBit_zero,←Nat.testBit_zero,Nat.testBit_xor]
   by_cases h1:b%2=1<;>by_cases h2:c%2=1<;>simp [h1,h2] at hx<;>simp [h1,h2]
@[simp] theorem mz (b:Nat):aG 1 b=b:=by
 induction b using je with
 | h0=>simp
 | h b _ ih=>rw [bX,ih,←ur]
theorem ey (a b:Nat):aG a b=aG b a:=by
 induction b using je with
 | h0=>simp
 | h b _ ih=>
   rw [bX,ih]
   conv=>rhs;rw [ur b]
   rw [eX,Jb]
   congr 1
   split<;>simp
theorem cw (a b c:Nat):aG (aG a b) c=aG a (aG b c):=by
 induction c using je with
 | h0=>simp
 | h c _ ih=>
   rw [bX (aG a b) c,bX b c,gy,kI,ih]
   congr 1
   split<;>simp

theorem wk (x:Nat):aG x 2=2*x:=by
 have:=kI x 1
 simpa using this
theorem HI (y b d:Nat):(y^^^b)^^^(b^^^d)=y^^^d:=by
 rw [Nat.xor_assoc,←Nat.xor_assoc b,Nat.xor_self,Nat.zero_xor]
theorem OR (a p q c:Nat):(a^^^p)^^^c=(a^^^(p^^^q))^^^(q^^^c):=by
 rw [←Nat.xor_assoc a p q,HI]

def bk (a d:Nat):Prop:=2^d≤a∧a<2^(d+1)
theorem aS {a:Nat} (h:a≠0):bk a a.log2:=⟨Nat.log2_self_le h,Nat.lt_log2_self⟩
theorem bk.ne {a d:Nat} (h:bk a d):a≠0:=by have:=Nat.two_pow_pos d;have:=h.1;omega
theorem bk.uniq {a d e:Nat} (h:bk a d) (h':bk a e):d=e:=by
 rcases Nat.lt_trichotomy d e with hl | hl | hl
 · have:=Nat.pow_le_pow_right (show 0<2 by decide) (show d+1≤e from hl);have:=h.2;have:=h'.1;omega
 · exact hl
 · have:=Nat.pow_le_pow_right (show 0<2 by decide) (show e+1≤d from hl);have:=h'.2;have:=h.1;omega
theorem AR {a d:Nat} (h:bk a d):a.testBit d=true:=by
 rw [Nat.testBit_eq_decide_div_mod_eq]
 have:a / 2^d=1:=by
   have hp:=Nat.two_pow_pos d
   rw [Nat.div_eq_iff hp]
   have:=h.1;have:=h.2;rw [Nat.pow_succ] at this;omega
 rw [this];rfl
theorem bk.fW {a b d:Nat} (h:bk a d) (hb:b<2^d):bk (a^^^b) d:=by
 have hb':b<2^(d+1):=by rw [Nat.pow_succ];omega
 refine ⟨Nat.le_of_not_lt fun hl=>?_,Nat.xor_lt_two_pow h.2 hb'⟩
 have h1:(a^^^b).testBit d=false:=Nat.testBit_lt_two_pow hl
 rw [Nat.testBit_xor,AR h,Nat.testBit_lt_two_pow hb] at h1
 cases h1
theorem bk.tE {a b d:Nat} (h:bk a d) (hb:bk b d):a^^^b<2^d:=by
 refine Nat.lt_pow_two_of_testBit _ fun i hi=>?_
 rw [Nat.testBit_xor]
 by_cases he:i=d
 · subst he;rw [AR h,AR hb];rfl
 · have hl:2^(d+1)≤2^i:=Nat.pow_le_pow_right (by decide) (by omega)
   rw [Nat.testBit_lt_two_pow (Nat.lt_of_lt_of_le h.2 hl),Nat.testBit_lt_two_pow (Nat.lt_of_lt_of_le hb.2 hl)];rfl
theorem bk.aG {a m:Nat} (ha:bk a m):∀(n b:Nat),bk b n→bk (Gf2.aG a b) (m+n)
 | 0,b,hb=>by
   have:b=1:=by have:=hb.1;have:=hb.2;omega
   subst this;simpa using ha
 | n+1,b,hb=>by
   have h2:bk (b / 2) n:=by
     have h1:=hb.1;have h2:=hb.2
     rw [Nat.pow_succ] at h1 h2
     constructor<;>omega
   have ih:=bk.aG ha n (b / 2) h2
   rw [bX,Nat.xor_comm]
   have hD:bk (2*Gf2.aG a (b / 2)) (m+(n+1)):=by
     have h1:=ih.1;have h3:=ih.2
     rw [show m+(n+1)=(m+n)+1 by omega]
     refine ⟨by rw [Nat.pow_succ];omega,?_⟩
     rw [Nat.pow_succ];omega
   refine hD.fW ?_
   split
   · exact Nat.lt_of_lt_of_le ha.2 (Nat.pow_le_pow_right (by decide) (by omega))
   · exact Nat.two_pow_pos _
theorem oy {a b:Nat} (h:a^^^b=0):a=b:=by
 have:=congrArg (· ^^^b) h
 simpa [Nat.xor_assoc] using this

def Dv (f a:Nat):Prop:=∃q,a=aG f q
theorem Dv.zero (f:Nat):Dv f 0:=⟨0,by simp⟩
theorem Dv.self (f:Nat):Dv f f:=⟨1,by simp⟩
theorem Dv.xor {f a b:Nat} (h:Dv f a) (h':Dv f b):Dv f (a^^^b):=by
 obtain ⟨q,rfl⟩:=h
 obtain ⟨r,rfl⟩:=h'
 exact ⟨q^^^r,(gy _ _ _).symm⟩
theorem Dv.mul {f a:Nat} (h:Dv f a) (b:Nat):Dv f (aG a b):=by
 obtain ⟨q,rfl⟩:=h
 exact ⟨aG q b,cw _ _ _⟩
theorem Dv.mul' {f a:Nat} (h:Dv f a) (b:Nat):Dv f (aG b a):=by rw [ey];exact h.mul b
theorem Dv.trans {f g h:Nat} (h1:Dv f g) (h2:Dv g h):Dv f h:=by
 obtain ⟨q,rfl⟩:=h2
 exact h1.mul q
theorem Dv.BA {f a b:Nat} (h:Dv f (a^^^b)) (h':Dv f b):Dv f a:=by
 have:=h.xor h'
 rwa [Nat.xor_assoc,Nat.xor_self,Nat.xor_zero] at this
theorem Dv.lt {f a d:Nat} (hf:bk f d) (h:Dv f a) (ha:a<2^d):a=0:=by
 obtain ⟨q,rfl⟩:=h
 by_cases hq:q=0
 · subst hq;simp
 · have h1:=(bk.aG hf _ _ (aS hq)).1
   have h2:2^d≤2^(d+q.log2):=Nat.pow_le_pow_right (by decide) (by omega)
   omega
theorem Kz {f:Nat} (h:Dv f 1):f=1:=by
 obtain ⟨q,hq⟩:=h
 have hf:f≠0:=by rintro rfl;simp at hq
 have hq0:q≠0:=by rintro rfl;simp at hq
 have h1:=bk.aG (aS hf) _ _ (aS hq0)
 rw [←hq] at h1
 have h2:bk 1 0:=⟨by decide,by decide⟩
 have h3:=h1.uniq h2
 have h4:=(aS hf).2
 have h5:=(aS hf).1
 have h6:f.log2=0:=by omega
 rw [h6] at h4 h5
 omega

structure jB (m d a r:Nat):Prop where
 lt:r<2^d
 dv:Dv m (a^^^r)
theorem jB.uniq {m d a r r':Nat} (hm:bk m d) (h:jB m d a r) (h':jB m d a r'):r=r':=by
 have h1:=h.dv.xor h'.dv
 rw [DD,Nat.xor_self,Nat.zero_xor] at h1
 exact oy (h1.lt hm (Nat.xor_lt_two_pow h.lt h'.lt))
theorem DJ (a i:Nat):aG a (2^i)=a*2^i:=by
 induction i with
 | zero=>simp
 | succ i ih=>rw [Nat.pow_succ,Nat.mul_comm _ 2,kI,ih,Nat.mul_left_comm]
theorem ni (m k:Nat):Dv m (m*2^k):=⟨2^k,(DJ m k).symm⟩
theorem bk.shift {m d:Nat} (h:bk m d) (k:Nat):bk (m*2^k) (d+k):=by
 refine ⟨?_,?_⟩
 · rw [Nat.pow_add];exact Nat.mul_le_mul_right _ h.1
 · rw [show d+k+1=(d+1)+k by omega,Nat.pow_add];exact (Nat.mul_lt_mul_right (Nat.two_pow_pos k)).2 h.2
theorem CH (a s r:Nat):((a^^^s)^^^r)^^^s=a^^^r:=by
 rw [Nat.xor_assoc,Nat.xor_comm r s,←Nat.xor_assoc,Nat.xor_assoc a,Nat.xor_self,Nat.xor_zero]
theorem xC {m d:Nat} (hm:bk m d) (a:Nat):∃r,jB m d a r:=by
 induction a using Nat.strongRecOn with
 | ind a ih=>
   by_cases ha:a<2^d
   · exact ⟨a,ha,by rw [Nat.xor_self];exact Dv.zero m⟩
   · have ha0:a≠0:=by have:=Nat.two_pow_pos d;omega
     have hd:=aS ha0
     have hle:d≤a.log2:=Nat.le_of_not_lt fun hl=>ha (Nat.lt_of_lt_of_le hd.2 (Nat.pow_le_pow_right (by decide) hl))
     have hs:bk (m*2^(a.log2-d)) a.log2:=by
       have:=hm.shift (a.log2-d)
       rwa [show d+(a.log2-d)=a.log2 by omega] at this
     obtain ⟨r,hr⟩:=ih (a^^^(m*2^(a.log2-d))) (Nat.lt_of_lt_of_le (hd.tE hs) hd.1)
     refine ⟨r,hr.lt,?_⟩
     have h1:=hr.dv.xor (ni m (a.log2-d))
     rwa [CH] at h1

def Irr (f:Nat):Prop:=2≤f∧∀a b,f=aG a b→a=1∨b=1
theorem MG {f:Nat} (hf:Irr f) {a:Nat} (ha:¬Dv f a):∃u v,aG f u^^^aG a v=1:=by
 have step:∀n,n≠0→(∃u v,aG f u^^^aG a v=n)→∃u v,aG f u^^^aG a v=1:=by
   intro n
   induction n using Nat.strongRecOn with
   | ind n ih=>
     intro hn hI
     have hd:=aS hn
     have red:∀x,(∃u v,aG f u^^^aG a v=x)→Dv n x∨∃r,r≠0∧r<n∧∃u v,aG f u^^^aG a v=r:=by
       intro x hx
       obtain ⟨r,hr⟩:=xC hd x
       obtain ⟨q,hq⟩:=hr.dv
       by_cases h0:r=0
       · left;subst h0;rw [Nat.xor_zero] at hq;exact ⟨q,hq⟩
       · right
         refine ⟨r,h0,Nat.lt_of_lt_of_le hr.lt hd.1,?_⟩
         obtain ⟨u,v,e1⟩:=hI
         obtain ⟨u2,v2,e2⟩:=hx
         refine ⟨u2^^^aG u q,v2^^^aG v q,?_⟩
         rw [gy,gy,DD,e2,←cw,←cw,←eX,e1,←hq,←Nat.xor_assoc,Nat.xor_self,Nat.zero_xor]
     rcases red f ⟨1,0,by simp⟩ with h1 | ⟨r,h0,hl,hr⟩
     · rcases red a ⟨0,1,by simp⟩ with h2 | ⟨r,h0,hl,hr⟩
       · obtain ⟨q,hq⟩:=h1
         rcases hf.2 _ _ hq with h | h
         · rw [h] at hI;exact hI
         · rw [h,yE] at hq;rw [←hq] at h2;exact absurd h2 ha
       · exact ih r hl h0 hr
     · exact ih r hl h0 hr
 exact step f (by have:=hf.1;omega) ⟨1,0,by simp⟩
theorem Irr.prime {f:Nat} (hf:Irr f) {a b:Nat} (h:Dv f (aG a b)):Dv f a∨Dv f b:=by
 by_cases ha:Dv f a
 · exact .inl ha
 · right
   obtain ⟨u,v,e⟩:=MG hf ha
   have h1:Dv f (aG (aG f u^^^aG a v) b):=by
     rw [eX]
     refine (((Dv.self f).mul u).mul b).xor ?_
     rw [cw,ey v b,←cw];exact h.mul v
   rw [e,mz] at h1;exact h1
theorem Irr.GG {f:Nat} (hf:Irr f):¬Dv f 1:=fun h=>by have:=Kz h;have:=hf.1;omega
theorem Mm {f a d e:Nat} (h:Dv f a) (hd:bk f d) (he:bk a e):d≤e:=by
 obtain ⟨q,rfl⟩:=h
 have hq:q≠0:=by rintro rfl;exact he.ne (by simp)
 have:=(bk.aG hd _ _ (aS hq)).uniq he
 omega
theorem Gl {a:Nat} (h0:a≠0) (h1:a≠1):1≤a.log2:=by
 refine Nat.le_of_not_lt fun hl=>?_
 have:=(aS h0).2
 rw [show a.log2=0 by omega] at this
 omega
theorem Eh {p:Nat} (hp:2≤p) (h:¬Irr p):∃a b,p=aG a b∧a≠0∧a≠1∧b≠0∧b≠1:=by
 apply Classical.byContradiction
 intro hn
 refine h ⟨hp,fun a b e=>?_⟩
 by_cases ha:a=1
 · exact .inl ha
 by_cases hb:b=1
 · exact .inr hb
 exact absurd ⟨a,b,e,by rintro rfl;simp at e;omega,ha,by rintro rfl;simp at e;omega,hb⟩ hn
theorem Fw (p:Nat) (hp:2≤p):∃f,Irr f∧Dv f p:=by
 induction p using Nat.strongRecOn with
 | ind p ih=>
   by_cases h:Irr p
   · exact ⟨p,h,Dv.self p⟩
   · obtain ⟨a,b,e,a0,a1,b0,b1⟩:=Eh hp h
     have hD:=bk.aG (aS a0) _ _ (aS b0)
     rw [←e] at hD
     have hb:=Gl b0 b1
     have hl:a<p:=by
       have h1:=(aS a0).2
       have h2:2^(a.log2+1)≤2^(a.log2+b.log2):=Nat.pow_le_pow_right (by decide) (by omega)
       have h3:=hD.1
       omega
     obtain ⟨f,h1,h2⟩:=ih a hl (by omega)
     exact ⟨f,h1,by rw [e];exact h2.mul b⟩
theorem He {p n:Nat} (hp:bk p n) (hn:1≤n) (h:¬Irr p):∃f d,Irr f∧Dv f p∧bk f d∧1≤d∧2*d≤n:=by
 have hp2:2≤p:=by
   have h1:=hp.1
   have h2:2^1≤2^n:=Nat.pow_le_pow_right (by decide) hn
   omega
 obtain ⟨a,b,e,a0,a1,b0,b1⟩:=Eh hp2 h
 have hD:=bk.aG (aS a0) _ _ (aS b0)
 rw [←e] at hD
 have hs:=hD.uniq hp
 have key:∀x y,x≠0→x≠1→p=aG x y→2*x.log2≤n→∃f d,Irr f∧Dv f p∧bk f d∧1≤d∧2*d≤n:=by
   intro x y x0 x1 ex hx
   obtain ⟨f,h1,h2⟩:=Fw x (by omega)
   have hf0:f≠0:=by have:=h1.1;omega
   have:=Mm h2 (aS hf0) (aS x0)
   exact ⟨f,f.log2,h1,by rw [ex];exact h2.mul y,aS hf0,Gl hf0 (by have:=h1.1;omega),by omega⟩
 by_cases hle:a.log2≤b.log2
 · exact key a b a0 a1 e (by omega)
 · exact key b a b0 b1 (by rw [ey];exact e) (by omega)

def sqs (a:Nat):Nat→Nat
 | 0=>a
 | i+1=>aG (sqs a i) (sqs a i)
theorem JW (a b:Nat):aG (a^^^b) (a^^^b)=aG a a^^^aG b b:=by
 rw [gy,eX,eX,ey b a,Nat.xor_comm (aG a b) (aG b b),DD,Nat.xor_self,Nat.xor_zero]
theorem BG (a b:Nat):∀i,sqs (a^^^b) i=sqs a i^^^sqs b i
 | 0=>rfl
 | i+1=>by rw [sqs,BG a b i,JW];rfl
theorem Nt (a b c d:Nat):aG (aG a b) (aG c d)=aG (aG a c) (aG b d):=by
 rw [cw,cw,←cw b,ey b c,cw]
theorem Gw (a b:Nat):∀i,sqs (aG a b) i=aG (sqs a i) (sqs b i)
 | 0=>rfl
 | i+1=>by rw [sqs,Gw a b i,Nt];rfl
theorem GI (a i:Nat):∀j,sqs (sqs a i) j=sqs a (i+j)
 | 0=>rfl
 | j+1=>by rw [sqs,GI a i j];rfl
theorem Dv.sqs {f a:Nat} (h:Dv f a):∀i,Dv f (Gf2.sqs a i)
 | 0=>h
 | i+1=>(Dv.sqs h i).mul _
theorem yp:∀i,sqs 0 i=0
 | 0=>rfl
 | i+1=>by rw [sqs,yp i];simp
theorem GW:∀i,sqs 1 i=1
 | 0=>rfl
 | i+1=>by rw [sqs,GW i];simp
theorem LB {f r:Nat} (h:Dv f (sqs 2 r^^^2)) (a:Nat):Dv f (sqs a r^^^a):=by
 induction a using je with
 | h0=>rw [yp];exact Dv.zero f
 | h a _ ih=>
   have e:a=(if a%2=1 then 1 else 0)^^^aG 2 (a / 2):=by rw [ey,wk (a / 2)];exact ur a
   rw [e,BG,DD]
   refine Dv.xor ?_ ?_
   · split
     · rw [GW];exact Dv.zero f
     · rw [yp];exact Dv.zero f
   · have e2:aG (sqs 2 r) (sqs (a / 2) r)^^^aG 2 (a / 2)=aG (sqs 2 r^^^2) (sqs (a / 2) r)^^^aG 2 (sqs (a / 2) r^^^a / 2):=by
       rw [eX,gy,←Nat.xor_assoc,Nat.xor_assoc (aG (sqs 2 r) _),Nat.xor_self,Nat.xor_zero]
     rw [Gw,e2]
     exact (h.mul _).xor (ih.mul' 2)

def ev (cs:List Nat) (y:Nat):Nat:=cs.foldl (fun s c=>aG s y^^^c) 0
theorem lB (cs:List Nat) (c y:Nat):ev (cs++ [c]) y=aG (ev cs y) y^^^c:=by simp [ev]
theorem Bk (y:Nat):ev [1] y=1:=by simp [ev]
theorem synth (b:Nat):∀(n:Nat) (t:List Nat),t.length=n→∃t':List Nat,t'.length=n∧∀c y,ev ((1::t)++ [c]) y=aG (y^^^b) (ev (1::t') y)^^^ev ((1::t)++ [c]) b
 | 0,t,ht=>by
   have:t=[]:=List.eq_nil_of_length_eq_zero ht
   subst this
   refine ⟨[],rfl,fun c y=>?_⟩
   rw [lB,lB,Bk,Bk,mz,mz,yE,HI]
 | n+1,t,ht=>by
   rcases List.eq_nil_or_concat t with rfl | ⟨L,d,hc⟩
   · simp at ht
   · rw [List.concat_eq_append] at hc
     subst hc
     obtain ⟨t',hl,h⟩:=synth b n L (by simpa using ht)
     refine ⟨t'++ [ev ((1::L)++ [d]) b],by simp [hl],fun c y=>?_⟩
     have e1:(1::(L++ [d]))++ [c]=((1::L)++ [d])++ [c]:=by simp
     have e2:1::(t'++ [ev ((1::L)++ [d]) b])=(1::t')++ [ev ((1::L)++ [d]) b]:=by simp
     rw [e1,e2,lB _ c y,lB _ c b,lB (1::t') _ y,h d y]
     generalize ev ((1::L)++ [d]) b=P
     generalize ev (1::t') y=Q
     rw [eX (aG _ _) P y,cw,gy (y^^^b),eX y b P,ey y P,ey b P]
     exact OR _ _ _ _
theorem roots {f:Nat} (hf:Irr f):∀(n:Nat) (t:List Nat),t.length=n→∀bs:List Nat,(bs.Pairwise fun a b=>¬Dv f (a^^^b))→(∀b∈bs,Dv f (ev (1::t) b))→bs.length≤n
 | 0,t,ht,bs,_,h=>by
   have:t=[]:=List.eq_nil_of_length_eq_zero ht
   subst this
   cases bs with
   | nil=>simp
   | cons b bs=>exact absurd (by have:=h b (by simp);rwa [Bk] at this) hf.GG
 | n+1,t,ht,bs,hp,h=>by
   cases bs with
   | nil=>simp
   | cons b bs=>
     rcases List.eq_nil_or_concat t with rfl | ⟨L,c,hc⟩
     · simp at ht
     · rw [List.concat_eq_append] at hc
       subst hc
       obtain ⟨t',hl,hs⟩:=synth b n L (by simpa using ht)
       obtain ⟨h1,h2⟩:=List.pairwise_cons.1 hp
       have:=roots hf n t' hl bs h2 fun y hy=>by
         have k1:=h y (by simp [hy])
         have k2:=h b (by simp)
         have e1:(1::(L++ [c]))=(1::L)++ [c]:=by simp
         rw [e1] at k1 k2
         rw [hs c y] at k1
         rcases hf.prime (k1.BA k2) with k | k
         · rw [Nat.xor_comm] at k;exact absurd k (h1 y hy)
         · exact k
       simp;omega

def nq (y:Nat):Nat→Nat
 | 0=>1
 | k+1=>aG (nq y k) y
theorem Cr (y i:Nat):∀j,nq y (i+j)=aG (nq y i) (nq y j)
 | 0=>by simp [nq]
 | j+1=>by rw [←Nat.add_assoc,nq,Cr y i j,cw];rfl
theorem wL (y:Nat):∀r,sqs y r=nq y (2^r)
 | 0=>by simp [sqs,nq]
 | r+1=>by rw [sqs,wL y r,←Cr,Nat.pow_succ,Nat.mul_two]
theorem JI (y:Nat):∀k,ev (1::List.replicate k 0) y=nq y k
 | 0=>by rw [List.replicate_zero,Bk];rfl
 | k+1=>by
   have e:(1::List.replicate (k+1) 0)=(1::List.replicate k 0)++ [0]:=by rw [List.replicate_succ'];simp
   rw [e,lB,JI y k,Nat.xor_zero];rfl
theorem D3 {f d r:Nat} (hf:Irr f) (hd:bk f d) (h0:1≤r) (h:Dv f (sqs 2 r^^^2)):d≤r:=by
 have hr2:2≤2^r:=by have:2^1≤2^r:=Nat.pow_le_pow_right (by decide) h0;omega
 have hl:=roots hf (2^r) ((List.replicate (2^r-2) 0++ [1])++ [0]) (by simp;omega) (List.range (2^d)) (by
   rw [List.pairwise_iff_getElem]
   intro i j hi hj hij hdv
   simp only [List.length_range] at hi hj
   simp only [List.getElem_range] at hdv
   have:=oy (hdv.lt hd (Nat.xor_lt_two_pow hi hj))
   omega) (fun y _=>by
   have e:1::((List.replicate (2^r-2) 0++ [1])++ [0])=((1::List.replicate (2^r-2) 0)++ [1])++ [0]:=by simp
   have e2:ev (((1::List.replicate (2^r-2) 0)++ [1])++ [0]) y=sqs y r^^^y:=by
     rw [lB,lB,JI,Nat.xor_zero,eX,mz,wL,show 2^r=2^r-2+1+1 by omega];rfl
   rw [e,e2];exact LB h y)
 rw [List.length_range] at hl
 exact (Nat.pow_le_pow_iff_right (by decide)).1 hl

theorem vQ:∀(l l':List Nat),l.Nodup→(∀x∈l,x∈l')→l'.length≤l.length→l.Perm l'
 | [],l',_,_,h=>by
   have:l'=[]:=List.eq_nil_of_length_eq_zero (by simpa using h)
   subst this;exact List.Perm.nil
 | a::l,l',hn,hs,h=>by
   have ha:a∈l':=hs a (by simp)
   have hp:=List.perm_cons_erase ha
   obtain ⟨h1,h2⟩:=List.nodup_cons.1 hn
   have:=vQ l (l'.erase a) h2 (fun x hx=>by
     refine (List.mem_erase_of_ne ?_).2 (hs x (by simp [hx]))
     rintro rfl;exact h1 hx) (by rw [List.length_erase_of_mem ha];simp at h;omega)
   exact (this.cons a).trans hp.symm
def gV:List Nat→Nat
 | []=>1
 | a::l=>aG a (gV l)
theorem EE {l l':List Nat} (h:l.Perm l'):gV l=gV l':=by
 induction h with
 | nil=>rfl
 | cons a _ ih=>simp [gV,ih]
 | swap a b l=>simp only [gV];rw [←cw,ey b a,cw]
 | trans _ _ h1 h2=>exact h1.trans h2
theorem Jz {f d:Nat} (hf:Irr f) (hd:bk f d):Dv f (sqs 2 d^^^2):=by
 by_cases h2:Dv f 2
 · exact (h2.sqs d).xor h2
 obtain ⟨g,hg⟩:=Classical.axiomOfChoice (xC hd)
 have hpos:=Nat.two_pow_pos d
 obtain ⟨L,hL⟩:∃L,List.range' 1 (2^d-1)=L:=⟨_,rfl⟩
 have hmem:∀x,x∈L↔1≤x∧x<2^d:=fun x=>by rw [←hL,List.mem_range'_1];omega
 have hnd:∀x∈L,¬Dv f x:=fun x hx h=>by
   have h1:=(hmem x).1 hx
   have:=h.lt hd h1.2;omega
 have hin:∀x∈L,g (aG 2 x)∈L:=fun x hx=>by
   refine (hmem _).2 ⟨Nat.pos_of_ne_zero fun h0=>?_,(hg _).lt⟩
   have h1:=(hg (aG 2 x)).dv
   rw [h0,Nat.xor_zero] at h1
   rcases hf.prime h1 with h | h
   · exact h2 h
   · exact hnd x hx h
 have hinj:∀x∈L,∀y∈L,g (aG 2 x)=g (aG 2 y)→x=y:=fun x hx y hy h=>by
   have h1:=(hg (aG 2 x)).dv.xor (hg (aG 2 y)).dv
   rw [h,DD,Nat.xor_self,Nat.xor_zero,←gy] at h1
   rcases hf.prime h1 with k | k
   · exact absurd k h2
   · exact oy (k.lt hd (Nat.xor_lt_two_pow ((hmem x).1 hx).2 ((hmem y).1 hy).2))
 have hnodL:L.Nodup:=by rw [←hL];exact List.nodup_range'
 have hperm:(L.map fun x=>g (aG 2 x)).Perm L:=by
   refine vQ _ _ ?_ (fun x hx=>?_) (by simp)
   · rw [List.Nodup,List.pairwise_map]
     exact hnodL.imp_of_mem fun {x y} hx hy hne h=>hne (hinj x hx y hy h)
   · obtain ⟨y,hy,rfl⟩:=List.mem_map.1 hx;exact hin y hy
 have hprod:∀l:List Nat,Dv f (gV (l.map fun x=>g (aG 2 x))^^^aG (nq 2 l.length) (gV l)):=fun l=>by
   induction l with
   | nil=>simp [gV,nq];exact Dv.zero f
   | cons a l ih=>
     simp only [List.map_cons,gV,List.length_cons]
     have e:aG (nq 2 (l.length+1)) (aG a (gV l))=aG (aG 2 a) (aG (nq 2 l.length) (gV l)):=by
       rw [nq,ey (nq 2 l.length) 2,Nt]
     rw [e]
     have e2:aG (g (aG 2 a)) (gV (l.map fun x=>g (aG 2 x)))^^^aG (aG 2 a) (aG (nq 2 l.length) (gV l))=aG (aG 2 a^^^g (aG 2 a)) (gV (l.map fun x=>g (aG 2 x)))^^^aG (aG 2 a) (gV (l.map fun x=>g (aG 2 x))^^^aG (nq 2 l.length) (gV l)):=by
       rw [eX,gy,Nat.xor_comm (aG (aG 2 a) _) (aG (g _) _),←Nat.xor_assoc,Nat.xor_assoc (aG (g _) _),Nat.xor_self,Nat.xor_zero]
     rw [e2]
     exact ((hg _).dv.mul _).xor (ih.mul' _)
 have hLl:L.length=2^d-1:=by rw [←hL];simp
 have h3:=hprod L
 rw [EE hperm,hLl] at h3
 have h4:Dv f (aG (1^^^nq 2 (2^d-1)) (gV L)):=by rw [eX,mz];exact h3
 have hnP:¬Dv f (gV L):=by
   have:∀l:List Nat,(∀x∈l,¬Dv f x)→¬Dv f (gV l):=fun l=>by
     induction l with
     | nil=>exact fun _=>hf.GG
     | cons a l ih=>
       intro h hdv
       rcases hf.prime hdv with k | k
       · exact h a (by simp) k
       · exact ih (fun x hx=>h x (by simp [hx])) k
   exact this L hnd
 rcases hf.prime h4 with h | h
 · have h5:=h.mul 2
   rw [eX,mz] at h5
   have e:aG (nq 2 (2^d-1)) 2=sqs 2 d:=by
     rw [wL,show 2^d=2^d-1+1 by omega];rfl
   rw [e,Nat.xor_comm] at h5
   exact h5
 · exact absurd h hnP

def oT (p y:Nat):Prop:=∀h,Dv h p→Dv h y→h=1
theorem Ho {p y:Nat} (hp:Irr p):oT p y↔¬Dv p y:=by
 constructor
 · intro h hd
   have:=h p (Dv.self p) hd
   have:=hp.1
   omega
 · intro h x hx hy
   obtain ⟨q,hq⟩:=hx
   rcases hp.2 _ _ hq with k | k
   · exact k
   · rw [k,yE] at hq;rw [←hq] at hy;exact absurd hy h
theorem Mp {f:Nat} (hf:Irr f) (h:f=1):False:=by have:=hf.1;omega
theorem xO {f d:Nat} (h:Dv f (sqs 2 d^^^2)) (r:Nat):∀k,Dv f (sqs 2 (d*k+r)^^^sqs 2 r)
 | 0=>by simp;exact Dv.zero f
 | k+1=>by
   have h1:=xO h r k
   have h2:=h.sqs (d*k+r)
   rw [BG,GI] at h2
   have h3:=h2.xor h1
   rw [Nat.xor_assoc,←Nat.xor_assoc (sqs 2 (d*k+r)),Nat.xor_self,Nat.zero_xor] at h3
   rwa [show d*(k+1)+r=d+(d*k+r) by rw [Nat.mul_succ];omega]
theorem NL {p n:Nat} (hp:bk p n) (hn:1≤n) (Q:List Nat) (hQ:∀q∈Q,1≤n / q∧n / q<n) (hC:∀d,1≤d→d<n→d ∣ n→∃q∈Q,d ∣ n / q):
   ((∀q∈Q,oT p (sqs 2 (n / q)^^^2))∧Dv p (sqs 2 n^^^2))↔Irr p:=by
 constructor
 · rintro ⟨h1,h2⟩
   apply Classical.byContradiction
   intro hi
   obtain ⟨f,d,f1,f2,f3,f4,f5⟩:=He hp hn hi
   have hF:=Jz f1 f3
   have h3:Dv f (sqs 2 n^^^2):=f2.trans h2
   have hr:n%d=0:=by
     apply Classical.byContradiction
     intro h0
     have h4:=xO hF (n%d) (n / d)
     rw [Nat.div_add_mod] at h4
     have h5:=h4.xor h3
     rw [Nat.xor_comm (sqs 2 n) (sqs 2 (n%d)),HI] at h5
     have:=D3 f1 f3 (Nat.pos_of_ne_zero h0) h5
     have:=Nat.mod_lt n f4
     omega
   obtain ⟨q,hq,k,hk⟩:=hC d f4 (by omega) (Nat.dvd_of_mod_eq_zero hr)
   have h6:=xO hF 0 k
   rw [Nat.add_zero,←hk] at h6
   exact Mp f1 (h1 q hq f f2 h6)
 · intro h
   refine ⟨fun q hq=>(Ho h).2 fun hd=>?_,Jz h hp⟩
   have:=D3 h hp (hQ q hq).1 hd
   have:=(hQ q hq).2
   omega

end Go.Proofs.YtpmhjnhgpplmnaaGreatDoor.Gf2
end

section
namespace Go.Proofs.YtpmhjnhgpplmnaaGreatDoor
open Go Go.Proofs.YtpmhjnhgpplmnaaGreatDoor.Sx
set_option maxRecDepth 100000
variable (w:World) (R:Ending→World→Prop)
theorem zw (a:Int) (h:∃b:Int→Int→World→Prop,Ifz (decide (a≥(4294967296:Int))) (b (dh .u64 a (32:Int)) 32 w) (b a 0 w)∧∀a c d,b a c d→∃b:Int→Int→World→Prop,Ifz (decide (a≥(65536:Int))) (b (dh .u64 a (16:Int)) (IntKind.wrap .i64 (c+(16:Int))) d) (b a c d)∧∀a c d,b a c d→∃b:Int→Int→World→Prop,Ifz (decide (a≥(256:Int))) (b (dh .u64 a (8:Int)) (IntKind.wrap .i64 (c+(8:Int))) d) (b a c d)∧∀a c d,b a c d→∃b,(Instr.index 9 (.string (ByteArray.mk #[0,1,2,2,3,3,3,3,4,4,4,4,4,4,4,4,5,5,5,5,5,5,5,5,5,5,5,5,5,5,5,5,6,6,6,6,6,6,6,6,6,6,6,6,6,6,6,6,6,6,6,6,6,6,6,6,6,6,6,6,6,6,6,6,7,7,7,7,7,7,7,7,7,7,7,7,7,7,7,7,7,7,7,7,7,7,7,7,7,7,7,7,7,7,7,7,7,7,7,7,7,7,7,7,7,7,7,7,7,7,7,7,7,7,7,7,7,7,7,7,7,7,7,7,7,7,7,7,8,8,8,8,8,8,8,8,8,8,8,8,8,8,8,8,8,8,8,8,8,8,8,8,8,8,8,8,8,8,8,8,8,8,8,8,8,8,8,8,8,8,8,8,8,8,8,8,8,8,8,8,8,8,8,8,8,8,8,8,8,8,8,8,8,8,8,8,8,8,8,8,8,8,8,8,8,8,8,8,8,8,8,8,8,8,8,8,8,8,8,8,8,8,8,8,8,8,8,8,8,8,8,8,8,8,8,8,8,8,8,8,8,8,8,8,8,8,8,8,8,8,8,8,8,8,8,8])) (.int .u8 (IntKind.wrap .u8 a))).run Tryz.prog d=.ok (.int .u8 b) d∧R (.returned (.int .i64 (IntKind.wrap .i64 (c+IntKind.wrap .i64 b)))) d):Calls Tryz.prog 274 #[.int .u64 a] w R:=af 0xe13ec03b3d30321210241f12103a2d203b3d30321210241912103a2d201b3d3032121022512103a2d21d Tryz.func274 (by kernel_rfl) h
theorem Cu (a:Int) (h:Ciz 274 #[.int .u64 a] w fun a b=>R (.returned (.int .i64 (IntKind.wrap .i64 (a- (1:Int))))) b):Calls Tryz.prog 205 #[.int .u64 a] w R:=af 0xd0141c1d Tryz.func205 (by kernel_rfl) h
theorem CC (a b c:Int) (h:Ciz 205 #[.int .u64 c] w fun d e=>∃(f:Int→Int→Int→World→Prop) (g:Int→Int→Int→World→Nat),f a b 63 e∧∀a b e h,f a b e h→Ifz (decide (e≥(0:Int))) (0≤e∧Ifz (eo .u64 (dh .u64 a e) (1:Int)==(0:Int)) (f a b (IntKind.wrap .i64 (e- (1:Int))) h∧g a b (IntKind.wrap .i64 (e- (1:Int))) h<g a b e h) (Ifz (decide (IntKind.wrap .i64 (IntKind.wrap .i64 ((64:Int)+e)-d)≥(64:Int))) (0≤IntKind.wrap .i64 (IntKind.wrap .i64 (IntKind.wrap .i64 ((64:Int)+e)-d)- (64:Int))∧f (aU .u64 a (gY .u64 c (IntKind.wrap .i64 (IntKind.wrap .i64 (IntKind.wrap .i64 ((64:Int)+e)-d)- (64:Int))))) b (IntKind.wrap .i64 (e- (1:Int))) h∧g (aU .u64 a (gY .u64 c (IntKind.wrap .i64 (IntKind.wrap .i64 (IntKind.wrap .i64 ((64:Int)+e)-d)- (64:Int))))) b (IntKind.wrap .i64 (e- (1:Int))) h<g a b e h) (0≤IntKind.wrap .i64 ((64:Int)-IntKind.wrap .i64 (IntKind.wrap .i64 ((64:Int)+e)-d))∧0≤IntKind.wrap .i64 (IntKind.wrap .i64 ((64:Int)+e)-d)∧f (aU .u64 a (dh .u64 c (IntKind.wrap .i64 ((64:Int)-IntKind.wrap .i64 (IntKind.wrap .i64 ((64:Int)+e)-d))))) (aU .u64 b (gY .u64 c (IntKind.wrap .i64 (IntKind.wrap .i64 ((64:Int)+e)-d)))) (IntKind.wrap .i64 (e- (1:Int))) h∧g (aU .u64 a (dh .u64 c (IntKind.wrap .i64 ((64:Int)-IntKind.wrap .i64 (IntKind.wrap .i64 ((64:Int)+e)-d))))) (aU .u64 b (gY .u64 c (IntKind.wrap .i64 (IntKind.wrap .i64 ((64:Int)+e)-d)))) (IntKind.wrap .i64 (e- (1:Int))) h<g a b e h))) (∃(a:Int→World→Prop) (e:Int→World→Nat),a b h∧∀b f,a b f→Ciz 205 #[.int .u64 b] f fun g h=>Ifz (decide (g≥d)) (Ciz 205 #[.int .u64 b] h (fun g h=>0≤IntKind.wrap .i64 (g-d)∧a (aU .u64 b (gY .u64 c (IntKind.wrap .i64 (g-d)))) h∧e (aU .u64 b (gY .u64 c (IntKind.wrap .i64 (g-d)))) h<e b f)) (R (.returned (.int .u64 b)) h))):Calls Tryz.prog 276 #[.int .u64 a,.int .u64 b,.int .u64 c] w R:=af 0x2d0d7ad014e180030d0141c2311111c5c1129823b0d7ae10d7a42c000d7a42c32d25d0030d7adc2820032d20333118202481c218203981d2010141c1d Tryz.func276 (by kernel_rfl) h
theorem yL (a b c:Int) (h:Calls Tryz.prog 330 #[.int .u64 b,.int .u64 c] w fun b c=>∃d e,b=.returned (.tuple #[.int .u64 d,.int .u64 e])∧Calls Tryz.prog 276 #[.int .u64 d,.int .u64 e,.int .u64 a] c fun a b=>∃c,a=.returned (.int .u64 c)∧R (.returned (.int .u64 c)) b):Calls Tryz.prog 277 #[.int .u64 a,.int .u64 b,.int .u64 c] w R:=af 0x1314ec0523324dc1d Tryz.func277 (by kernel_rfl) h
theorem Eg (a b:Int) (h:∃(c:Int→Int→Int→World→Prop) (d:Int→Int→Int→World→Nat),c 0 0 0 w∧∀e f g h,c e f g h→Ifz (decide (g<(64:Int))) (0≤g∧∃i:Int→Int→World→Prop,Ifz (eo .u64 (dh .u64 b g) (1:Int)==(1:Int)) (0≤g∧0≤IntKind.wrap .i64 ((64:Int)-g)∧i (aU .u64 e (dh .u64 a (IntKind.wrap .i64 ((64:Int)-g)))) (aU .u64 f (gY .u64 a g)) h) (i e f h)∧∀a b j,i a b j→c a b (IntKind.wrap .i64 (g+1)) j∧d a b (IntKind.wrap .i64 (g+1)) j<d e f g h) (R (.returned (.tuple #[.int .u64 e,.int .u64 f])) h)):Calls Tryz.prog 330 #[.int .u64 a,.int .u64 b] w R:=af 0x4d2b00d7a4210d7aec33322611b29262a0d7adc2d8200321d03331192622f61981d22d2d Tryz.func330 (by kernel_rfl) h
theorem Cb (a:Option Addr) (b c:Nat) (h:∃(c:Int→Int→World→Prop) (d:Int→Int→World→Nat),c 0 0 w∧∀e f g,c e f g→Ifz (decide (f<(b:Int))) (∃h i,a=some ⟨h,i,none⟩∧0≤f∧f<(b:Int)∧Lkz .u64 42 h (i+Int.toNat f*1) g fun a=>∃(b:Int→Int→World→Prop) (h:Int→Int→World→Nat),b e a g∧∀a i j,b a i j→Ifz (i != (0:Int)) (Calls Tryz.prog 276 #[.int .u64 0,.int .u64 a,.int .u64 i] j (fun c d=>∃e,c=.returned (.int .u64 e)∧b i e d∧h i e d<h a i j)) (c a (IntKind.wrap .i64 (f+1)) j∧d a (IntKind.wrap .i64 (f+1)) j<d e f g)) (R (.returned (.int .u64 e)) g)):Calls Tryz.prog 279 #[.slice a b c] w R:=af 0x2d2b0d314e180032d23321513261c151339801338c8200321d0321181321b1815133983d21d1d Tryz.func279 (by kernel_rfl) h
theorem y3 (a:Int) (h:∃(b:Int→Option Addr→Nat→Nat→Int→World→Prop) (c:Int→Option Addr→Nat→Nat→Int→World→Nat),b a none 0 0 2 w∧∀a d e f g h,b a d e f g h→Ifz (decide (a>(1:Int))) (g≠0∧Ifz (Int.tmod a g != (0:Int)) (b a d e f (IntKind.wrap .i64 (g+1)) h∧c a d e f (IntKind.wrap .i64 (g+1)) h<c a d e f g h) (Bsz 29 1 #[(0,.int .i64 g)] h (fun i j k l=>Apz 29 (.slice d e f) (.slice i j k) l fun i j k l=>∃(m:Int→World→Prop) (n:Int→World→Nat),m a l∧∀l o,m l o→g≠0∧Ifz (Int.tmod l g==(0:Int)) (g≠0∧m (IntKind.wrap .i64 (Int.tdiv l g)) o∧n (IntKind.wrap .i64 (Int.tdiv l g)) o<n l o) (b l i j k (IntKind.wrap .i64 (g+1)) o∧c l i j k (IntKind.wrap .i64 (g+1)) o<c a d e f g h)))) (R (.returned (.slice d e f)) h)):Calls Tryz.prog 278 #[.int .i64 a] w R:=af 0x2d3b017ad18003017adc20110172910298017575dc003017adc2820032d20703231022d3102981d21d1d Tryz.func278 (by kernel_rfl) h
theorem pT (a:Int) (h:Bxz 42 (.int .u64 a) w fun a b=>Lkz .u64 42 a 0 b fun c=>Ciz 205 #[.int .u64 c] b fun b c=>Ifz (decide (b<(1:Int))) (R (.returned (.bool false)) c) (∃d e,(Instr.makeFunc (.func 275) #[] #[.pointer (some ⟨a,0,none⟩)]).run Tryz.prog c=.ok d e∧Clz 278 #[.int .i64 b] e fun c e f g=>∃(f:Int→World→Prop) (h:Int→World→Nat),f 0 g∧∀g i,f g i→Ifz (decide (g<(e:Int))) (∃j k,c=some ⟨j,k,none⟩∧0≤g∧g<(e:Int)∧Liz 3 j (k+Int.toNat g*1) i fun c=>∃e:World→Prop,e i.drew∧c≠0∧∃j,(∀b,e b→LdQ 42 a 0 (.int .u64 j) b)∧∃k,(∀b,e b→LdQ 42 a 0 (.int .u64 k) b)∧∃(a:Nat) (l:List Value),d=.func (.func a) #[] ⟨l⟩∧gG Tryz.prog a=true∧Calls Tryz.prog a (([.int .i64 (IntKind.wrap .i64 (Int.tdiv b c))]:List Value)++l).toArray i.drew fun a b=>∃c,a=.returned (.int .u64 c)∧∃a:World→Prop,(∀b,a b→e b)∧a b∧Calls Tryz.prog 276 #[.int .u64 0,.int .u64 2,.int .u64 k] b fun b d=>∃e,b=.returned (.int .u64 e)∧∃b:World→Prop,(∀c,b c→a c)∧b d∧Bsz 433 2 #[(0,.int .u64 j),(1,.int .u64 (aU .u64 c e))] d fun a c d e=>∃j:World→Prop,(∀a,j a→b a)∧j e∧Calls Tryz.prog 279 #[.slice a c d] e fun a b=>∃c,a=.returned (.int .u64 c)∧∃a:World→Prop,(∀b,a b→j b)∧a b∧Ifz (c != (1:Int)) (R (.returned (.bool false)) b) (f (IntKind.wrap .i64 (g+1)) b∧h (IntKind.wrap .i64 (g+1)) b<h g i)) (∃c:World→Prop,c i.drew∧∃e,(∀b,c b→LdQ 42 a 0 (.int .u64 e) b)∧∃(a:Nat) (f:List Value),d=.func (.func a) #[] ⟨f⟩∧gG Tryz.prog a=true∧Calls Tryz.prog a (([.int .i64 b]:List Value)++f).toArray i.drew fun a b=>∃d,a=.returned (.int .u64 d)∧∃a:World→Prop,(∀b,a b→c b)∧a b∧Calls Tryz.prog 276 #[.int .u64 0,.int .u64 2,.int .u64 e] b fun b c=>∃e,b=.returned (.int .u64 e)∧∃b:World→Prop,(∀c,b c→a c)∧b c∧R (.returned (.bool (d==e))) c))):Calls Tryz.prog 206 #[.int .u64 a] w R:=af 0x65223184431b243331022522b001d30001b13181a47219401813187431b54363303741321325201038c8200321d0111f1291f16123980d7141c20195c001d32d20101433c017c Tryz.func206 (by kernel_rfl) h
theorem nL (a:Int) (b c:Nat) (h:Lkz .u64 42 b c w fun d=>Calls Tryz.prog 276 #[.int .u64 0,.int .u64 2,.int .u64 d] w fun d e=>∃f,d=.returned (.int .u64 f)∧∃(d:Int→Int→World→Prop) (g:Int→Int→World→Nat),d f 0 e∧∀e f h,d e f h→Ifz (decide (f<a)) (Lkz .u64 42 b c h (fun a=>Calls Tryz.prog 277 #[.int .u64 a,.int .u64 e,.int .u64 e] h fun a b=>∃c,a=.returned (.int .u64 c)∧d c (IntKind.wrap .i64 (f+1)) b∧g c (IntKind.wrap .i64 (f+1)) b<g e f h)) (R (.returned (.int .u64 e)) h)):Calls Tryz.prog 275 #[.int .i64 a,.pointer (some ⟨b,c,none⟩)] w R:=af 0x2d2b01314d3318200321d032118142718142982d20131433c1d Tryz.func275 (by kernel_rfl) h
theorem xN (a:Array Value) (h:Bxz 44 (.agg a) w fun a b=>Lkz .u64 42 a 0 b fun c=>Ciz 205 #[.int .u64 c] b fun b c=>∃d:Bool→World→Prop,Ifz (decide (b<(8:Int))||decide (b>(55:Int))) (d true c) (Lkz .u64 42 a 0 c (fun a=>Cbz 206 #[.int .u64 a] c fun a b=>d (!a) b))∧∀c e,d c e→∃d:World→Prop,Ifz c (d e) (∃c:Bool→World→Prop,Liz 3 a 1 e (fun b=>Ifz (decide (b<(1:Int))) (c true e) (Liz 3 a 1 e (fun a=>c (decide (a>(64:Int))) e)))∧∀e f,c e f→∃c:World→Prop,Ifz e (c f) (∃d:Bool→World→Prop,Liz 3 a 2 f (fun b=>Liz 3 a 1 f fun c=>Ifz (decide (b<c)) (d true f) (Liz 3 a 3 f (fun b=>Liz 3 a 2 f fun c=>Ifz (decide (b<c)) (d true f) (Liz 3 a 3 f (fun a=>d (decide (a>(65536:Int))) f)))))∧∀e f,d e f→∃d:World→Prop,Ifz e (d f) (∃c:Bool→World→Prop,Liz 3 a 4 f (fun d=>Ifz (decide (d<(0:Int))) (c true f) (Liz 3 a 4 f (fun d=>Ifz (decide (d>b)) (c true f) (Liz 3 a 4 f (fun a=>c (decide (a>(20:Int))) f)))))∧∀a b,c a b→Ifz a (d b) (R (.returned .nilIface) b))∧∀a,d a→c a)∧∀a,c a→d a)∧∀a,d a→R (.returned (.iface 65 (.int .i64 11))) a):Calls Tryz.prog 105 #[.agg a] w R:=af 0x2d01d030e03105279c4203101b26bcd03114115f11f5f1a203001f5f122a0e0310525ace03103101c24bcd03103114113d12a3d1a20300493d122a0e03105238cd03114112c1192c1a203005a2c122a0e4143310621ec12be1411711d71a28201014331c017c Tryz.func105 (by kernel_rfl) h
end Go.Proofs.YtpmhjnhgpplmnaaGreatDoor
end

section
namespace Go.Proofs.YtpmhjnhgpplmnaaGreatDoor
open Go Sx Gf2
set_option maxRecDepth 8000

abbrev W64:Nat:=18446744073709551616
theorem w64:W64=2^64:=by decide
theorem oA {a b:Nat} (ha:a<W64) (hb:b<W64):a^^^b<W64:=by rw [w64] at*;exact Nat.xor_lt_two_pow ha hb
theorem x64 {a b:Nat} (ha:a<W64) (hb:b<W64):aU .u64 (a:Int) (b:Int)=((a^^^b:Nat):Int):=nM rfl (by simpa [eM,IntKind.bits] using ha) (by simpa [eM,IntKind.bits] using hb)
theorem Nu {a b:Nat} (ha:a<W64) (hb:b<W64):eo .u64 (a:Int) (b:Int)=((a&&& b:Nat):Int):=sF rfl (by simpa [eM,IntKind.bits] using ha) (by simpa [eM,IntKind.bits] using hb)
theorem Ga {x n:Nat} (hn:n≤64):gY .u64 (x:Int) ((n:Nat):Int)=((x*2^n%W64:Nat):Int):=A8 rfl _ _ hn
theorem Ai {x n:Nat} (hn:n≤64):dh .u64 (x:Int) ((n:Nat):Int)=((x / 2^n:Nat):Int):=mP _ _ _ hn
theorem Gg {x n:Nat} (hx:x<W64) (hn:n≤64):eo .u64 (dh .u64 (x:Int) (n:Int)) 1=((x / 2^n%2:Nat):Int):=by
 rw [Ai hn]
 have:=Nu (a:=x / 2^n) (b:=1) (Nat.lt_of_le_of_lt (Nat.div_le_self _ _) hx) (by decide)
 rw [Nat.and_one_is_mod] at this
 exact this

def lJ (x:Nat):Nat:=if x=0 then 0 else x.log2+1
theorem xJ {x d:Nat} (h:bk x d):lJ x=d+1:=by
 rw [lJ,if_neg h.ne,(aS h.ne).uniq h]
theorem Gf2.bk.shr {x d k:Nat} (h:bk x d) (hk:k≤d):bk (x / 2^k) (d-k):=by
 have hp:=Nat.two_pow_pos k
 refine ⟨(Nat.le_div_iff_mul_le hp).2 ?_,(Nat.div_lt_iff_lt_mul hp).2 ?_⟩
 · rw [←Nat.pow_add,show d-k+k=d by omega];exact h.1
 · rw [←Nat.pow_add,show d-k+1+k=d+1 by omega];exact h.2
theorem qW {x k:Nat} (h:2^k≤x):lJ x=k+lJ (x / 2^k):=by
 have h0:x≠0:=by have:=Nat.two_pow_pos k;omega
 have hd:=aS h0
 have hk:k≤x.log2:=Nat.le_of_not_lt fun hl=>by
   have:=Nat.pow_le_pow_right (show 0<2 by decide) (show x.log2+1≤k from hl)
   have:=hd.2
   omega
 rw [xJ hd,xJ (hd.shr hk)]
 omega
def uI:List UInt8:=(List.range 256).map fun x=>UInt8.ofNat (lJ x)
theorem Fb:uI=[0,1,2,2,3,3,3,3,4,4,4,4,4,4,4,4,5,5,5,5,5,5,5,5,5,5,5,5,5,5,5,5,6,6,6,6,6,6,6,6,6,6,6,6,6,6,6,6,6,6,6,6,6,6,6,6,6,6,6,6,6,6,6,6,7,7,7,7,7,7,7,7,7,7,7,7,7,7,7,7,7,7,7,7,7,7,7,7,7,7,7,7,7,7,7,7,7,7,7,7,7,7,7,7,7,7,7,7,7,7,7,7,7,7,7,7,7,7,7,7,7,7,7,7,7,7,7,7,8,8,8,8,8,8,8,8,8,8,8,8,8,8,8,8,8,8,8,8,8,8,8,8,8,8,8,8,8,8,8,8,8,8,8,8,8,8,8,8,8,8,8,8,8,8,8,8,8,8,8,8,8,8,8,8,8,8,8,8,8,8,8,8,8,8,8,8,8,8,8,8,8,8,8,8,8,8,8,8,8,8,8,8,8,8,8,8,8,8,8,8,8,8,8,8,8,8,8,8,8,8,8,8,8,8,8,8,8,8,8,8,8,8,8,8,8,8,8,8,8,8,8,8,8,8,8,8]:=by kernel_rfl
theorem Oh {l:List UInt8} {i:Nat} (hi:i<l.length) (w:World):(Instr.index 9 (.string ⟨l.toArray⟩) (.int .u8 (i:Int))).run Tryz.prog w=.ok (.int .u8 ((l.getD i 0).toNat:Int)) w:=by
 have h1:(⟨l.toArray⟩:ByteArray)[i]?=some (l.getD i 0):=by
   have h2:i<(⟨l.toArray⟩:ByteArray).size:=by show i<l.toArray.size;simpa using hi
   rw [getElem?_pos _ i h2]
   show some (l.toArray[i]'(by simpa using hi))=_
   simp [List.getD,hi]
 have h0:(0:Int)≤(i:Int):=by omega
 simp only [Instr.index,Sem.run_bind,asIntOf,Sem.run_pure,run_underlying Tryz.underlying9,Result.andThen_ok,h0,if_true,Int.toNat_natCast,h1]
theorem FD (x:Nat) (hx:x<W64) (w:World):Calls Tryz.prog 274 #[.int .u64 (x:Int)] w fun e w'=>e=.returned (.int .i64 ((lJ x:Nat):Int))∧w'=w:=by
 apply zw
 refine ⟨fun y n w'=>∃y' n':Nat,y=y'∧n=n'∧y'<4294967296∧n'≤32∧n'+lJ y'=lJ x∧w'=w,⟨fun h=>?_,fun h=>?_⟩,?_⟩
 · simp only [decide_eq_true_eq,ge_iff_le] at h
   have h32:2^32≤x:=by omega
   have hx':x<18446744073709551616:=hx
   refine ⟨x / 2^32,32,Ai (by decide),rfl,by omega,by omega,(qW h32).symm,rfl⟩
 · simp only [decide_eq_false_iff_not,ge_iff_le] at h
   exact ⟨x,0,rfl,rfl,by omega,by omega,by omega,rfl⟩
 rintro y n w1 ⟨y,n,rfl,rfl,hy,hn,hl,rfl⟩
 refine ⟨fun y n w'=>∃y' n':Nat,y=y'∧n=n'∧y'<65536∧n'≤48∧n'+lJ y'=lJ x∧w'=w1,⟨fun h=>?_,fun h=>?_⟩,?_⟩
 · simp only [decide_eq_true_eq,ge_iff_le] at h
   have h16:2^16≤y:=by omega
   have:=qW h16
   exact ⟨y / 2^16,n+16,Ai (by decide),by rw [wrap_i64 (by omega) (by omega)];omega,by omega,by omega,by omega,rfl⟩
 · simp only [decide_eq_false_iff_not,ge_iff_le] at h
   exact ⟨y,n,rfl,rfl,by omega,by omega,hl,rfl⟩
 rintro y n w2 ⟨y,n,rfl,rfl,hy,hn,hl,rfl⟩
 refine ⟨fun y n w'=>∃y' n':Nat,y=y'∧n=n'∧y'<256∧n'≤56∧n'+lJ y'=lJ x∧w'=w2,⟨fun h=>?_,fun h=>?_⟩,?_⟩
 · simp only [decide_eq_true_eq,ge_iff_le] at h
   have h8:2^8≤y:=by omega
   have:=qW h8
   exact ⟨y / 2^8,n+8,Ai (by decide),by rw [wrap_i64 (by omega) (by omega)];omega,by omega,by omega,by omega,rfl⟩
 · simp only [decide_eq_false_iff_not,ge_iff_le] at h
   exact ⟨y,n,rfl,rfl,by omega,by omega,hl,rfl⟩
 rintro y n w3 ⟨y,n,rfl,rfl,hy,hn,hl,rfl⟩
 have hle:lJ y≤8:=by
   unfold lJ
   split
   · omega
   · rename_i h0
     have h1:=(aS h0).1
     have:y.log2<8:=Nat.lt_of_not_le fun h8=>by
       have:=Nat.pow_le_pow_right (show 0<2 by decide) h8
       omega
     omega
 have hg:((uI.getD y 0).toNat:Int)=((lJ y:Nat):Int):=by
   rw [uI,List.getD_eq_getElem?_getD,List.getElem?_map,List.getElem?_range hy]
   simp only [Option.map_some,Option.getD_some]
   rw [UInt8.toNat_ofNat',Nat.mod_eq_of_lt (by omega)]
 have ht:uI.length=256:=by simp [uI]
 have hix:=Oh (l:=uI) (i:=y) (by omega) w3
 rw [hg,Fb] at hix
 refine ⟨_,by rw [wrap_u8,Int.emod_eq_of_lt (by omega) (by omega)];exact hix,?_,rfl⟩
 rw [wrap_i64 (n:=((lJ y:Nat):Int)) (by omega) (by omega),wrap_i64 (by omega) (by omega)]
 congr 2
 omega

def mB (p:Nat):Int:=(lJ p:Int)-1
theorem kS {p d:Nat} (h:bk p d):mB p=d:=by rw [mB,xJ h];omega
theorem ou (p:Nat) (hp:p<W64) (w:World):Calls Tryz.prog 205 #[.int .u64 (p:Int)] w fun e w'=>e=.returned (.int .i64 (mB p))∧w'=w:=by
 have hl:lJ p≤64:=by
   unfold lJ
   split
   · omega
   · rename_i h0
     have h1:=(aS h0).1
     have:p.log2<64:=Nat.lt_of_not_le fun h8=>by
       have:=Nat.pow_le_pow_right (show 0<2 by decide) h8
       have:=w64
       omega
     omega
 apply Cu
 refine (FD p hp w).mono ?_
 rintro e w1 ⟨rfl,rfl⟩
 refine ⟨_,rfl,?_,rfl⟩
 rw [wrap_i64 (by omega) (by omega)]
 rfl

end Go.Proofs.YtpmhjnhgpplmnaaGreatDoor
end

section
namespace Go.Proofs.YtpmhjnhgpplmnaaGreatDoor
open Go Sx Gf2
set_option maxRecDepth 8000

theorem Nk (n:Nat):(((n:Nat):Int)==0)=decide (n=0):=by
 rw [Bool.eq_iff_iff];simp
theorem NR (n:Nat):(((n:Nat):Int)==1)=decide (n=1):=by
 rw [Bool.eq_iff_iff];simp;omega

theorem uu {a b c e:Nat} (hb:b<W64) (he:e<W64):(a^^^c)*W64+(b^^^e)=(a*W64+b)^^^(c*W64+e):=by
 rw [w64] at*
 refine Nat.eq_of_testBit_eq fun j=>?_
 rw [Nat.testBit_xor,Nat.mul_comm,Nat.mul_comm a,Nat.mul_comm c,Nat.testBit_two_pow_mul_add _ (Nat.xor_lt_two_pow hb he),Nat.testBit_two_pow_mul_add _ hb,Nat.testBit_two_pow_mul_add _ he]
 split<;>rw [Nat.testBit_xor]
theorem Gj (x:Nat) {s:Nat} (hs:s≤64):x / 2^(64-s)*W64+x*2^s%W64=x*2^s:=by
 have h1:x*2^s / W64=x / 2^(64-s):=by
   rw [w64,show (64:Nat)=(64-s)+s by omega,Nat.pow_add,show (64-s+s)-s=64-s by omega]
   exact Nat.mul_div_mul_right _ _ (Nat.two_pow_pos s)
 have:=Nat.div_add_mod (x*2^s) W64
 rw [h1,Nat.mul_comm W64] at this
 exact this

theorem Lr {x i:Nat} (hx:x<2^(i+1)):(x / 2^i%2=0→x<2^i)∧(x / 2^i%2≠0→bk x i):=by
 have hp:=Nat.two_pow_pos i
 have h2:x / 2^i<2:=(Nat.div_lt_iff_lt_mul hp).2 (by rw [Nat.pow_succ] at hx;omega)
 constructor
 · intro h
   refine Nat.lt_of_not_le fun hl=>?_
   have:=(Nat.le_div_iff_mul_le hp).2 (show 1*2^i≤x by omega)
   omega
 · intro h
   refine ⟨Nat.le_of_not_lt fun hl=>h ?_,hx⟩
   rw [Nat.div_eq_of_lt hl]

theorem xP {m d:Nat} (h:bk m d) (hm:m<W64):d<64:=Nat.lt_of_not_le fun h8=>by
 have:=Nat.pow_le_pow_right (show 0<2 by decide) h8
 have:=h.1
 have:=w64
 omega
theorem AD {x d:Nat} (h:bk x d) (hd:d<64):x<W64:=by
 have:=Nat.pow_le_pow_right (show 0<2 by decide) (show d+1≤64 from hd)
 have:=h.2
 have:=w64
 omega

set_option maxHeartbeats 1000000 in
theorem pg {m d:Nat} (hm:bk m d) (hm64:m<W64) (hi lo:Nat) (hhi:hi<W64) (hlo:lo<W64) (w:World):
   Calls Tryz.prog 276 #[.int .u64 (hi:Int),.int .u64 (lo:Int),.int .u64 (m:Int)] w fun e w'=>∃r:Nat,e=.returned (.int .u64 (r:Int))∧jB m d (hi*W64+lo) r∧r<W64∧w'=w:=by
 have hd:=xP hm hm64
 apply CC
 refine (ou m hm64 w).mono ?_
 rintro e w1 ⟨rfl,rfl⟩
 rw [kS hm]
 refine ⟨_,rfl,fun x y z w'=>∃(a b k:Nat),x=(a:Int)∧y=(b:Int)∧z=(k:Int)-1∧k≤64∧a<2^k∧b<W64∧Dv m ((a*W64+b)^^^(hi*W64+lo))∧w'=w1,fun _ _ z _=>(z+1).toNat,⟨hi,lo,64,rfl,rfl,rfl,by omega,by rw [←w64];exact hhi,hlo,by rw [Nat.xor_self];exact Dv.zero m,rfl⟩,?_⟩
 rintro x y z w2 ⟨a,b,k,rfl,rfl,rfl,hk,ha,hb,hdv,rfl⟩
 refine ⟨fun h=>?_,fun h=>?_⟩
 · simp only [ge_iff_le,decide_eq_true_eq] at h
   obtain ⟨i,rfl⟩:∃i,k=i+1:=⟨k-1,by omega⟩
   have ez:(((i+1:Nat):Int)-1)=(i:Int):=by omega
   have hW:IntKind.wrap .i64 ((i:Int)-1)=(i:Int)-1:=wrap_i64 (by omega) (by omega)
   have ha64:a<W64:=by
     have:=Nat.pow_le_pow_right (show 0<2 by decide) hk
     have:=w64
     omega
   have hs0:IntKind.wrap .i64 (IntKind.wrap .i64 ((64:Int)+(i:Int))- (d:Int))=((64+i-d:Nat):Int):=by
     rw [wrap_i64 (n:=(64:Int)+i) (by omega) (by omega),wrap_i64 (by omega) (by omega)];omega
   rw [ez,hW,hs0]
   obtain ⟨g0,g1⟩:=Lr ha
   have hmu:((i:Int)-1+1).toNat<((i:Int)+1).toNat:=by omega
   refine ⟨by omega,fun hbit=>⟨⟨a,b,i,rfl,rfl,rfl,by omega,?_,hb,hdv,rfl⟩,hmu⟩,fun hbit=>?_⟩
   · rw [Gg ha64 (by omega),Nk] at hbit
     exact g0 (of_decide_eq_true hbit)
   · rw [Gg ha64 (by omega),Nk] at hbit
     have hdeg:=g1 (of_decide_eq_false hbit)
     refine ⟨fun hs=>?_,fun hs=>?_⟩
     · simp only [ge_iff_le,decide_eq_true_eq] at hs
       have hsd:d≤i:=by omega
       have e1:IntKind.wrap .i64 (((64+i-d:Nat):Int)-64)=((i-d:Nat):Int):=by rw [wrap_i64 (by omega) (by omega)];omega
       have hS:=hm.shift (i-d)
       rw [show d+(i-d)=i by omega] at hS
       have hS64:=AD hS (by omega)
       rw [e1,Ga (by omega),Nat.mod_eq_of_lt hS64,x64 ha64 hS64]
       refine ⟨by omega,⟨_,b,i,rfl,rfl,rfl,by omega,hdeg.tE hS,hb,?_,rfl⟩,hmu⟩
       have e2:=uu (a:=a) (c:=m*2^(i-d)) hb (show 0<W64 by decide)
       rw [Nat.xor_zero,Nat.add_zero] at e2
       rw [e2]
       have e3:m*2^(i-d)*W64=m*2^(64+i-d):=by rw [w64,Nat.mul_assoc,←Nat.pow_add];congr 2;omega
       rw [e3,Nat.xor_assoc,Nat.xor_comm (m*2^(64+i-d)),←Nat.xor_assoc]
       exact hdv.xor (ni m _)
     · simp only [ge_iff_le,decide_eq_false_iff_not] at hs
       obtain ⟨s,hse⟩:∃s,64+i-d=s:=⟨_,rfl⟩
       rw [hse] at hs ⊢
       have hs64:s≤64:=by omega
       have e1:IntKind.wrap .i64 ((64:Int)- (s:Int))=((64-s:Nat):Int):=by rw [wrap_i64 (by omega) (by omega)];omega
       have hsh:bk (m / 2^(64-s)) i:=by
         have:=hm.shr (k:=64-s) (by omega)
         rwa [show d- (64-s)=i by omega] at this
       have hq64:m / 2^(64-s)<W64:=Nat.lt_of_le_of_lt (Nat.div_le_self _ _) hm64
       have hr64:m*2^s%W64<W64:=Nat.mod_lt _ (by decide)
       rw [e1,Ai (by omega),Ga hs64,x64 ha64 hq64,x64 hb hr64]
       refine ⟨by omega,by omega,⟨_,_,i,rfl,rfl,rfl,by omega,hdeg.tE hsh,oA hb hr64,?_,rfl⟩,hmu⟩
       rw [uu hb hr64,Gj m hs64,Nat.xor_assoc,Nat.xor_comm (m*2^s),←Nat.xor_assoc]
       exact hdv.xor (ni m _)
 · simp only [ge_iff_le,decide_eq_false_iff_not] at h
   have hk0:k=0:=by omega
   subst hk0
   have ha0:a=0:=by simpa using ha
   subst ha0
   rw [Nat.zero_mul,Nat.zero_add] at hdv
   refine ⟨fun y w'=>∃c:Nat,y=(c:Int)∧c<W64∧Dv m (c^^^(hi*W64+lo))∧w'=w2,fun y _=>y.toNat,⟨b,rfl,hb,hdv,rfl⟩,?_⟩
   rintro y w3 ⟨c,rfl,hc,hcd,rfl⟩
   refine (ou c hc w3).mono ?_
   rintro e w4 ⟨rfl,rfl⟩
   refine ⟨_,rfl,fun hge=>?_,fun hlt=>?_⟩
   · simp only [ge_iff_le,decide_eq_true_eq] at hge
     have hc0:c≠0:=by rintro rfl;simp [mB,lJ] at hge;omega
     have hcl:=aS hc0
     rw [kS hcl] at hge
     have hl64:=xP hcl hc
     refine (ou c hc w4).mono ?_
     rintro e w5 ⟨rfl,rfl⟩
     rw [kS hcl]
     have e1:IntKind.wrap .i64 ((c.log2:Int)- (d:Int))=((c.log2-d:Nat):Int):=by rw [wrap_i64 (by omega) (by omega)];omega
     have hS:=hm.shift (c.log2-d)
     rw [show d+(c.log2-d)=c.log2 by omega] at hS
     have hS64:=AD hS hl64
     refine ⟨_,rfl,?_⟩
     try dsimp only
     rw [e1,Ga (by omega),Nat.mod_eq_of_lt hS64,x64 hc hS64]
     have hlt:=Nat.lt_of_lt_of_le (hcl.tE hS) hcl.1
     refine ⟨by omega,⟨_,rfl,oA hc hS64,?_,rfl⟩,by simp only [Int.toNat_natCast];exact hlt⟩
     rw [Nat.xor_assoc,Nat.xor_comm (m*2^_),←Nat.xor_assoc]
     exact hcd.xor (ni m _)
   · simp only [ge_iff_le,decide_eq_false_iff_not] at hlt
     refine ⟨c,rfl,⟨?_,by rw [Nat.xor_comm];exact hcd⟩,hc,rfl⟩
     by_cases hc0:c=0
     · subst hc0;exact Nat.two_pow_pos d
     · have hcl:=aS hc0
       rw [kS hcl] at hlt
       exact Nat.lt_of_lt_of_le hcl.2 (Nat.pow_le_pow_right (by decide) (by omega))

theorem Ig (a b:Nat) (i:Nat):aG a (b%2^(i+1))=aG a (b%2^i)^^^(if b / 2^i%2=1 then a*2^i else 0):=by
 have e:b%2^(i+1)=(b%2^i)^^^(if b / 2^i%2=1 then 2^i else 0):=by
   refine Nat.eq_of_testBit_eq fun j=>?_
   rw [Nat.testBit_xor,Nat.testBit_mod_two_pow,Nat.testBit_mod_two_pow]
   have hi:b.testBit i=decide (b / 2^i%2=1):=Nat.testBit_eq_decide_div_mod_eq
   by_cases hj:j=i
   · subst hj
     split<;>simp [hi,Nat.testBit_two_pow_self, *]
   · have:(if b / 2^i%2=1 then 2^i else 0).testBit j=false:=by
       split
       · exact Nat.testBit_two_pow_of_ne (fun h=>hj h.symm)
       · simp
     rw [this,Bool.xor_false]
     by_cases hl:j<i
     · simp [hl,Nat.lt_succ_of_lt hl]
     · have:¬j<i+1:=by omega
       simp [hl,this]
 rw [e,gy]
 congr 1
 split
 · rw [DJ]
 · simp

theorem Jd (a b:Nat) (ha:a<W64) (hb:b<W64) (w:World):
   Calls Tryz.prog 330 #[.int .u64 (a:Int),.int .u64 (b:Int)] w fun e w'=>∃hi lo:Nat,e=.returned (.tuple #[.int .u64 (hi:Int),.int .u64 (lo:Int)])∧hi<W64∧lo<W64∧hi*W64+lo=aG a b∧w'=w:=by
 apply Eg
 refine ⟨fun x y z w'=>∃(hi lo i:Nat),x=(hi:Int)∧y=(lo:Int)∧z=(i:Int)∧i≤64∧hi<W64∧lo<W64∧hi*W64+lo=aG a (b%2^i)∧w'=w,fun _ _ z _=>64-z.toNat,⟨0,0,0,rfl,rfl,rfl,by omega,by decide,by decide,by simp [Nat.mod_one],rfl⟩,?_⟩
 rintro x y z w1 ⟨hi,lo,i,rfl,rfl,rfl,hi64,hh,hl,he,rfl⟩
 refine ⟨fun h=>?_,fun h=>?_⟩
 · have hi':i<64:=by simp at h;omega
   have e1:IntKind.wrap .i64 ((64:Int)- (i:Int))=((64-i:Nat):Int):=by rw [wrap_i64 (by omega) (by omega)];omega
   have hq:a / 2^(64-i)<W64:=Nat.lt_of_le_of_lt (Nat.div_le_self _ _) ha
   have hr:a*2^i%W64<W64:=Nat.mod_lt _ (by decide)
   have hb':=Ig a b i
   refine ⟨by omega,fun x y w'=>∃(hi lo:Nat),x=(hi:Int)∧y=(lo:Int)∧hi<W64∧lo<W64∧hi*W64+lo=aG a (b%2^(i+1))∧w'=w1,⟨fun hbit=>?_,fun hbit=>?_⟩,?_⟩
   · rw [Gg hb (by omega),NR] at hbit
     have hbit':b / 2^i%2=1:=of_decide_eq_true hbit
     rw [e1,Ai (by omega),Ga (by omega),x64 hh hq,x64 hl hr]
     refine ⟨by omega,by omega,_,_,rfl,rfl,oA hh hq,oA hl hr,?_,rfl⟩
     rw [uu hl hr,Gj a (by omega),he,hb',if_pos hbit']
   · rw [Gg hb (by omega),NR] at hbit
     have hbit':¬b / 2^i%2=1:=of_decide_eq_false hbit
     refine ⟨hi,lo,rfl,rfl,hh,hl,?_,rfl⟩
     rw [hb',if_neg hbit',Nat.xor_zero,he]
   · rintro x y w2 ⟨hi2,lo2,rfl,rfl,h1,h2,h3,rfl⟩
     exact ⟨⟨hi2,lo2,i+1,rfl,rfl,ay hi' (by omega),by omega,h1,h2,h3,rfl⟩,aB hi' (by omega)⟩
 · have hi':i=64:=by simp at h;omega
   subst hi'
   rw [←w64,Nat.mod_eq_of_lt hb] at he
   exact ⟨hi,lo,rfl,hh,hl,he,rfl⟩

theorem D1 {m d:Nat} (hm:bk m d) (hm64:m<W64) (a b:Nat) (ha:a<W64) (hb:b<W64) (w:World):
   Calls Tryz.prog 277 #[.int .u64 (m:Int),.int .u64 (a:Int),.int .u64 (b:Int)] w fun e w'=>∃r:Nat,e=.returned (.int .u64 (r:Int))∧jB m d (aG a b) r∧r<W64∧w'=w:=by
 apply yL
 refine (Jd a b ha hb w).mono ?_
 rintro e w1 ⟨hi,lo,rfl,h1,h2,h3,rfl⟩
 refine ⟨_,_,rfl,(pg hm hm64 hi lo h1 h2 w1).mono ?_⟩
 rintro e w2 ⟨r,rfl,hr,hr64,rfl⟩
 rw [h3] at hr
 exact ⟨_,rfl,r,rfl,hr,hr64,rfl⟩

def JE (a b g:Nat):Prop:=∀h,Dv h g↔(Dv h a∧Dv h b)
theorem JE.alone {a b g:Nat} (h:JE a b g):g=1↔oT a b:=by
 constructor
 · rintro rfl x h1 h2
   exact Kz ((h x).2 ⟨h1,h2⟩)
 · intro ha
   have:=(h g).1 (Dv.self g)
   exact ha g this.1 this.2
theorem Fh {a b r d:Nat} (hr:jB b d a r):∀h,(Dv h b∧Dv h r)↔(Dv h a∧Dv h b):=fun h=>by
 constructor
 · rintro ⟨h1,h2⟩
   exact ⟨(h1.trans hr.dv).BA h2,h1⟩
 · rintro ⟨h1,h2⟩
   refine ⟨h2,?_⟩
   have:=h2.trans hr.dv
   rw [Nat.xor_comm] at this
   exact this.BA h1

end Go.Proofs.YtpmhjnhgpplmnaaGreatDoor
end

section
namespace Go.Proofs.YtpmhjnhgpplmnaaGreatDoor
open Go Sx Gf2
set_option maxRecDepth 8000

theorem MX (w:World):(isAgg 42).run Tryz.prog w=.ok false w:=Tryz.isAgg42 w
theorem EN (w:World):(isAgg 3).run Tryz.prog w=.ok false w:=Tryz.isAgg3 w

theorem KB (p y : Nat) (hp : p < W64) (hy : y < W64) (a : Option Addr) (c : Nat) (w : World) (hr : Rd w a 2 c 1 [.int .u64 (p : Int), .int .u64 (y : Int)]) :
   Calls Tryz.prog 279 #[.slice a 2 c] w fun e w'=>∃g:Nat,e=.returned (.int .u64 (g:Int))∧JE p y g∧g<W64∧w'=w:=by
 apply Cb
 refine ⟨fun x z w'=>∃(A j:Nat),x=(A:Int)∧z=(j:Int)∧j≤2∧A<W64∧(∀h,Dv h A↔∀v∈ [p,y].take j,Dv h v)∧w'=w,fun _ z _=>2-z.toNat,⟨0,0,rfl,rfl,by omega,by decide,fun h=>by simp [Dv.zero],rfl⟩,?_⟩
 rintro x z w1 ⟨A,j,rfl,rfl,hj,hA,hG,rfl⟩
 refine ⟨fun h=>?_,fun h=>?_⟩
 · have hj' : j < 2 := by simp at h; omega
   obtain ⟨v,hv,hv64⟩:∃v:Nat,[p,y][j]?=some v∧v<W64:=by
     match j,hj' with
     | 0,_=>exact ⟨p,rfl,hp⟩
     | 1,_=>exact ⟨y,rfl,hy⟩
   have hcell:([.int .u64 (p:Int),.int .u64 (y:Int)]:List Value)[j]?=some (.int .u64 (v:Int)):=by
     have: [Value.int .u64 (p:Int),.int .u64 (y:Int)]=[p,y].map fun (n:Nat)=>Value.int .u64 (n:Int):=rfl
     rw [this,List.getElem?_map,hv];rfl
   obtain ⟨b,o,ha,hc⟩:=hr.cells.at_ hcell
   refine ⟨b,o,ha,by omega,by omega,_,by rw [Int.toNat_natCast,Nat.mul_one];exact ld1 (MX _) hc,fun x z w'=>∃(s t:Nat),x=(s:Int)∧z=(t:Int)∧s<W64∧t<W64∧(∀h,(Dv h s∧Dv h t)↔(Dv h A∧Dv h v))∧w'=w1,fun _ z _=>z.toNat,⟨A,v,rfl,rfl,hA,hv64,fun _=>Iff.rfl,rfl⟩,?_⟩
   rintro x z w2 ⟨s,t,rfl,rfl,hs,ht,hst,rfl⟩
   refine ⟨fun hne=>?_,fun heq=>?_⟩
   · have ht0:t≠0:=by rintro rfl;simp at hne
     refine (pg (aS ht0) ht 0 s (by decide) hs w2).mono ?_
     rintro e w3 ⟨r,rfl,hm,hr64,rfl⟩
     rw [Nat.zero_mul,Nat.zero_add] at hm
     refine ⟨_,rfl,⟨t,r,rfl,rfl,ht,hr64,fun h=>(Fh hm h).trans (hst h),rfl⟩,?_⟩
     have:=Nat.lt_of_lt_of_le hm.lt (aS ht0).1
     simp only [Int.toNat_natCast];exact this
   · have ht0 : t = 0 := by have : ((t : Nat) : Int) = 0 := by simpa using heq
                            omega
     subst ht0
     refine ⟨⟨s,j+1,rfl,ay hj' (by omega),by omega,hs,fun h=>?_,rfl⟩,aB hj' (by omega)⟩
     have h1:=hst h
     have h2:=hG h
     rw [List.take_add_one,hv]
     simp only [Option.toList_some,List.mem_append,List.mem_singleton,or_imp,forall_and,forall_eq]
     rw [←h2,←h1]
     exact ⟨fun k=>⟨k,Dv.zero h⟩,fun k=>k.1⟩
 · have hj':j=2:=by simp at h;omega
   subst hj'
   refine ⟨A,rfl,fun h=>?_,hA,rfl⟩
   rw [hG h]
   simp

theorem Gf2.jB.sq {p n a s r:Nat} (h1:jB p n a s) (h2:jB p n (aG s s) r):jB p n (aG a a) r:=⟨h2.lt,by
 have h3:Dv p (aG (a^^^s) (a^^^s)):=h1.dv.mul _
 rw [JW] at h3
 have:=h3.xor h2.dv
 rwa [HI] at this⟩
theorem vN {p n:Nat} (hp:bk p n) (hp64:p<W64) (g k:Nat) (hk:k≤1000) (w:World) (hld:(Instr.loadAt 42 (.pointer (some ⟨g,0,none⟩))).run Tryz.prog w=.ok (.int .u64 (p:Int)) w):
   Calls Tryz.prog 275 #[.int .i64 (k:Int),.pointer (some ⟨g,0,none⟩)] w fun e w'=>∃x:Nat,e=.returned (.int .u64 (x:Int))∧x<W64∧jB p n (sqs 2 k) x∧w'=w:=by
 apply nL
 refine ⟨_,hld,(pg hp hp64 0 2 (by decide) (by decide) w).mono ?_⟩
 rintro e w1 ⟨r,rfl,hr,hr64,rfl⟩
 rw [Nat.zero_mul,Nat.zero_add] at hr
 refine ⟨_,rfl,fun x z w'=>∃(s i:Nat),x=(s:Int)∧z=(i:Int)∧i≤k∧s<W64∧jB p n (sqs 2 i) s∧w'=w1,fun _ z _=>k-z.toNat,⟨r,0,rfl,rfl,by omega,hr64,hr,rfl⟩,?_⟩
 rintro x z w2 ⟨s,i,rfl,rfl,hi,hs,hm,rfl⟩
 refine ⟨fun h=>?_,fun h=>?_⟩
 · have hi':i<k:=by simp at h;omega
   refine ⟨_,hld,(D1 hp hp64 s s hs hs w2).mono ?_⟩
   rintro e w3 ⟨r2,rfl,hr2,hr264,rfl⟩
   exact ⟨_,rfl,⟨r2,i+1,rfl,ay hi' (by omega),by omega,hr264,hm.sq hr2,rfl⟩,aB hi' (by omega)⟩
 · have hi':i=k:=by simp at h;omega
   subst hi'
   exact ⟨s,rfl,hs,hm,rfl⟩

theorem Dj {p a b:Nat} (h:Dv p (a^^^b)):oT p a↔oT p b:=by
 have key:∀a b,Dv p (a^^^b)→oT p a→oT p b:=fun a b h ha x hx hb=>by
   refine ha x hx ?_
   exact (hx.trans h).BA hb
 exact ⟨key a b h,key b a (by rw [Nat.xor_comm];exact h)⟩
theorem HQ {p n a b x y:Nat} (hp:bk p n) (hx:jB p n a x) (hy:jB p n b y):x=y↔Dv p (a^^^b):=by
 constructor
 · rintro rfl
   have:=hx.dv.xor hy.dv
   rw [Nat.xor_comm b x,HI] at this
   exact this
 · intro h
   refine jB.uniq hp (a:=b) ⟨hx.lt,?_⟩ hy
   have:=h.xor hx.dv
   rw [Nat.xor_comm a b,HI] at this
   exact this

theorem uT:gz Tryz.prog 29 3 1 8 (.int .i64 0):=⟨by kernel_rfl,⟨Tryz.t3,by kernel_rfl,by kernel_rfl,by kernel_rfl,by kernel_rfl⟩,rfl,by decide⟩
def nis (l:List Nat):List Value:=l.map fun (q:Nat)=>.int .i64 (q:Int)
theorem E5 {m p g:Nat} (hb:∀q,2≤q→q<p→¬q ∣ m) (hpm:p ∣ m) (hp:2≤p) {m3:Nat} (hg:1<g) (h:g ∣ p*m3):p ∣ g∨g ∣ m3:=by
 by_cases hpg:p ∣ g
 · exact .inl hpg
 · right
   have h1:Nat.gcd g p=1:=by
     have hd:=Nat.gcd_dvd_right g p
     have hl:=Nat.le_of_dvd (by omega) hd
     have h0:Nat.gcd g p≠0:=fun h0=>by rw [h0] at hd;have:=Nat.eq_zero_of_zero_dvd hd;omega
     rcases Nat.lt_or_ge (Nat.gcd g p) p with h2 | h2
     · rcases Nat.lt_or_ge (Nat.gcd g p) 2 with h3 | h3
       · omega
       · exact absurd (Nat.dvd_trans hd hpm) (hb _ h3 h2)
     · have:Nat.gcd g p=p:=by omega
       exact absurd (by have:=Nat.gcd_dvd_left g p;rwa [‹Nat.gcd g p=p›] at this) hpg
   exact Nat.Coprime.dvd_of_dvd_mul_left h1 h

set_option maxHeartbeats 1000000 in
theorem Dn (n : Nat) (h1 : 1 ≤ n) (hn : n ≤ 1000) (w : World) :
   Calls Tryz.prog 278 #[.int .i64 (n:Int)] w fun e w'=>∃(a:Option Addr) (c:Nat) (Q:List Nat),e=.returned (.slice a Q.length c)∧(∀q∈Q,2≤q∧q ∣ n)∧(∀e,1<e→e ∣ n→∃q∈Q,q ∣ e)∧Q.length≤2000∧St w [] w' [.row 3 1 (.slice a Q.length c) Q.length (nis Q)]:=by
 apply y3
 refine ⟨fun x ra rn rc z w'=>∃(m p:Nat) (Q:List Nat),x=(m:Int)∧z=(p:Int)∧rn=Q.length∧1≤m∧m ∣ n∧2≤p∧Q.length≤p∧p≤n+2∧(∀q,2≤q→q<p→¬q ∣ m)∧(∀q∈Q,2≤q∧q ∣ n)∧(∀e,1<e→e ∣ n→(∃q∈Q,q ∣ e)∨∃g,1<g∧g ∣ e∧g ∣ m)∧St w [] w' [.row 3 1 (.slice ra rn rc) rn (nis Q)],fun _ _ _ _ z _=>n+2-z.toNat,
   ⟨n,2,[],rfl,rfl,rfl,h1,Nat.dvd_refl n,by omega,by simp,by omega,fun q h2 h3=>by omega,by simp,fun e h2 h3=>.inr ⟨e,h2,Nat.dvd_refl e,h3⟩,(St.start w).bZ 3 1⟩,?_⟩
 rintro x ra rn rc z w1 ⟨m,p,Q,rfl,rfl,rfl,hm1,hmn,hp2,hQp,hpn,hb,hQ,hE,hS⟩
 have hml:m≤n:=Nat.le_of_dvd h1 hmn
 refine ⟨fun hgt=>?_,fun hle=>?_⟩
 · have hm2 : 1 < m := by simp at hgt; omega
   have hpm:p≤m:=Nat.le_of_not_lt fun hl=>hb m hm2 hl (Nat.dvd_refl m)
   have hW:IntKind.wrap .i64 ((p:Int)+1)=((p+1:Nat):Int):=by rw [wrap_i64 (by omega) (by omega)];rfl
   have hmod:∀x:Nat,Int.tmod (x:Int) (p:Int)=((x%p:Nat):Int):=fun x=>by rw [Int.tmod_eq_emod_of_nonneg (by omega)];rfl
   have hdiv:∀x:Nat,Int.tdiv (x:Int) (p:Int)=((x / p:Nat):Int):=fun x=>by rw [Int.tdiv_eq_ediv_of_nonneg (by omega)];rfl
   refine ⟨by omega,fun hne=>?_,fun heq=>?_⟩
   · rw [hmod] at hne
     rw [hW]
     have hnd:¬p ∣ m:=fun hd=>by rw [Nat.mod_eq_zero_of_dvd hd] at hne;simp at hne
     refine ⟨⟨m,p+1,Q,rfl,rfl,rfl,hm1,hmn,by omega,by omega,by omega,fun q h2 h3=>?_,hQ,hE,hS⟩,by simp only [Int.toNat_natCast];omega⟩
     by_cases hq:q=p
     · subst hq;exact hnd
     · exact hb q h2 (by omega)
   · rw [hmod] at heq
     have hd : p ∣ m := Nat.dvd_of_mod_eq_zero (by have : ((m % p : Nat) : Int) = 0 := by simpa using heq
                                                   omega)
     obtain ⟨g,w2,va,vc,w3,r2,r3,h3,_,_⟩:=hS.Ko (i:=0) (ty:=29) uT rfl (.int .i64 (p:Int)) rfl (by omega) (by simp only [maxLen];omega)
     have e1:nis Q++ [Value.int .i64 (p:Int)]=nis (Q++ [p]):=by simp [nis]
     rw [e1] at h3
     have h3:St w [] w3 [.row 3 1 (.slice va (Q.length+1) vc) (Q.length+1) (nis (Q++ [p]))]:=h3
     refine ⟨_,_,_,w2,r2,_,_,_,w3,r3,fun x w'=>∃m2:Nat,x=(m2:Int)∧1≤m2∧m2 ∣ m∧(∀e,1<e→e ∣ n→(∃q∈Q++ [p],q ∣ e)∨∃g,1<g∧g ∣ e∧g ∣ m2)∧w'=w3,fun x _=>x.toNat,⟨m,rfl,hm1,Nat.dvd_refl m,fun e h4 h5=>?_,rfl⟩,?_⟩
     · rcases hE e h4 h5 with ⟨q,hq,k⟩ | k
       · exact .inl ⟨q,List.mem_append_left _ hq,k⟩
       · exact .inr k
     rintro x w4 ⟨m2,rfl,hm21,hm2m,hE2,rfl⟩
     have hm2n:m2≤n:=Nat.le_trans (Nat.le_of_dvd (by omega) hm2m) hml
     refine ⟨by omega,fun hz=>?_,fun hnz=>?_⟩
     · rw [hmod] at hz
       have hd2 : p ∣ m2 := Nat.dvd_of_mod_eq_zero (by have : ((m2 % p : Nat) : Int) = 0 := by simpa using hz
                                                       omega)
       obtain ⟨m3,rfl⟩:=hd2
       have hdv:p*m3 / p=m3:=Nat.mul_div_cancel_left _ (by omega)
       have hm3:1≤m3:=Nat.pos_of_ne_zero fun h0=>by subst h0;simp at hm21
       have hlt:m3<p*m3:=by
         have:=Nat.mul_le_mul_right m3 hp2
         omega
       rw [hdiv,hdv,wrap_i64 (by omega) (by omega)]
       refine ⟨by omega,⟨m3,rfl,hm3,Nat.dvd_trans (Nat.dvd_mul_left m3 p) hm2m,fun e h4 h5=>?_,rfl⟩,by simp only [Int.toNat_natCast];omega⟩
       rcases hE2 e h4 h5 with k | ⟨g,hg,hge,hgm⟩
       · exact .inl k
       · rcases E5 hb hd hp2 hg hgm with k | k
         · exact .inl ⟨p,by simp,Nat.dvd_trans k hge⟩
         · exact .inr ⟨g,hg,hge,k⟩
     · rw [hmod] at hnz
       rw [hW]
       have hnd:¬p ∣ m2:=fun hd=>by rw [Nat.mod_eq_zero_of_dvd hd] at hnz;simp at hnz
       refine ⟨⟨m2,p+1,Q++ [p],rfl,rfl,by simp,hm21,Nat.dvd_trans hm2m hmn,by omega,by simp;omega,by omega,fun q h4 h5=>?_,fun q hq=>?_,hE2,by simpa using h3⟩,by simp only [Int.toNat_natCast];omega⟩
       · by_cases hq:q=p
         · subst hq;exact hnd
         · exact fun hd=>hb q h4 (by omega) (Nat.dvd_trans hd hm2m)
       · rcases List.mem_append.1 hq with hq | hq
         · exact hQ q hq
         · simp only [List.mem_singleton] at hq;subst hq;exact ⟨hp2,Nat.dvd_trans hd hmn⟩
 · have hm2:m=1:=by simp at hle;omega
   subst hm2
   refine ⟨ra,rc,Q,rfl,hQ,fun e h2 h3=>?_,by omega,hS⟩
   rcases hE e h2 h3 with k | ⟨g,hg,_,hg1⟩
   · exact k
   · have:=Nat.le_of_dvd (by omega) hg1;omega

end Go.Proofs.YtpmhjnhgpplmnaaGreatDoor
end

section
namespace Go.Proofs.YtpmhjnhgpplmnaaGreatDoor
open Go Sx Gf2
set_option maxRecDepth 8000

theorem Ou:gz Tryz.prog 433 42 1 8 (.int .u64 0):=⟨by kernel_rfl,⟨Tryz.t42,by kernel_rfl,by kernel_rfl,by kernel_rfl,by kernel_rfl⟩,rfl,by decide⟩

theorem Ka {p n:Nat} (hp:bk p n) (hn:1≤n) {Q:List Nat} (hQ:∀q∈Q,2≤q∧q ∣ n) (hE:∀e,1<e→e ∣ n→∃q∈Q,q ∣ e):
   ((∀q∈Q,oT p (sqs 2 (n / q)^^^2))∧Dv p (sqs 2 n^^^2))↔Irr p:=by
 refine NL hp hn Q (fun q hq=>?_) (fun d h1 h2 h3=>?_)
 · obtain ⟨h2,hd⟩:=hQ q hq
   exact ⟨Nat.div_pos (Nat.le_of_dvd hn hd) (by omega),Nat.div_lt_self hn h2⟩
 · obtain ⟨k,hk⟩:=h3
   have hk1:1<k:=by
     rcases Nat.lt_or_ge 1 k with h | h
     · exact h
     · have:d*k≤d*1:=Nat.mul_le_mul_left d h
       omega
   obtain ⟨q,hq,j,hj⟩:=hE k hk1 ⟨d,by rw [Nat.mul_comm];exact hk⟩
   refine ⟨q,hq,j,?_⟩
   have hq2:=(hQ q hq).1
   rw [hk,hj,show d*(q*j)=q*(d*j) from Nat.mul_left_comm _ _ _]
   exact Nat.mul_div_cancel_left _ (by omega)

set_option maxHeartbeats 2000000 in
theorem I4 {p n:Nat} (hp:bk p n) (hn:1≤n) (hp64:p<W64) (w:World):
   Calls Tryz.prog 206 #[.int .u64 (p:Int)] w fun e w'=>∃b:Bool,e=.returned (.bool b)∧(b=true↔Irr p)∧Chg [] w w':=by
 have hn64:=xP hp hp64
 apply pT
 obtain ⟨g,w1,r1,k1⟩:=(St.start w).box (P:=Tryz.prog) 42 (.int .u64 (p:Int))
 have k1:St w [] w1 [.arr g 42 [.int .u64 (p:Int)]]:=k1
 have ldP:∀ {w' L},St w [] w' (.arr g 42 [.int .u64 (p:Int)]::L)→(Instr.loadAt 42 (.pointer (some ⟨g,0,none⟩))).run Tryz.prog w'=.ok (.int .u64 (p:Int)) w':=fun h=>h.ldL (i:=0) (o:=0) rfl (MX _) rfl rfl
 refine ⟨g,w1,r1,_,ldP k1,(ou p hp64 w1).mono ?_⟩
 rintro e w2 ⟨he,rfl⟩
 rw [kS hp] at he
 refine ⟨_,he,fun h=>?_,fun _=>⟨.func (.func 275) #[] #[.pointer (some ⟨g,0,none⟩)],w2,by simp [Instr.makeFunc],(Dn n hn (by omega) w2).mono ?_⟩⟩
 · simp at h;omega
 rintro e w4 ⟨a,c,Q,rfl,hQ,hE,hQl,k4⟩
 have R:=Ka hp hn hQ hE
 have k5:=Sx.St.cq (N:=[]) (by rw [List.append_nil];exact k1) k4
 have k5:St w [] w4 [.arr g 42 [.int .u64 (p:Int)],.row 3 1 (.slice a Q.length c) Q.length (nis Q)]:=k5
 let S:World→Prop:=fun w'=>St w [] w' [.arr g 42 [.int .u64 (p:Int)],.row 3 1 (.slice a Q.length c) Q.length (nis Q)]
 refine ⟨_,_,_,rfl,fun x w'=>∃i:Nat,x=(i:Int)∧i≤Q.length∧(∀q∈Q.take i,oT p (sqs 2 (n / q)^^^2))∧S w',fun x _=>Q.length-x.toNat,⟨0,rfl,by omega,by simp,k5⟩,?_⟩
 rintro x w5 ⟨i,rfl,hi,hA,hS⟩
 have hSd:S w5.drew:=Sx.St.drew hS
 refine ⟨fun h=>?_,fun h=>?_⟩
 · have hi' : i < Q.length := by simp at h; omega
   obtain ⟨q,hq⟩:∃q,Q[i]?=some q:=⟨_,List.getElem?_eq_getElem hi'⟩
   have hqm:=List.mem_of_getElem? hq
   obtain ⟨hq2,hqn⟩:=hQ q hqm
   have hcell:(nis Q)[i]?=some (.int .i64 (q:Int)):=by rw [nis,List.getElem?_map,hq];rfl
   have hr:Rd w5 a Q.length c 1 (nis Q):=Sx.St.rd hS (i:=1) rfl
   obtain ⟨b,o,ha,hc⟩:=hr.cells.at_ hcell
   have e1:IntKind.wrap .i64 (Int.tdiv (n:Int) (q:Int))=((n / q:Nat):Int):=by
     rw [Int.tdiv_eq_ediv_of_nonneg (by omega)]
     have:n / q≤n:=Nat.div_le_self n q
     rw [show (n:Int) / (q:Int)=((n / q:Nat):Int) from rfl,sy _ (Nat.lt_of_le_of_lt this (by omega))]
   have hle:n / q≤n:=Nat.div_le_self n q
   refine ⟨b,o,ha,by omega,by omega,_,by rw [Int.toNat_natCast,Nat.mul_one];exact ld1 (EN _) hc,S,hSd,by omega,_,fun w' hw=>ldP hw,_,fun w' hw=>ldP hw,275,[.pointer (some ⟨g,0,none⟩)],rfl,by kernel_rfl,?_⟩
   rw [e1]
   refine (vN hp hp64 g (n / q) (by omega) w5.drew (ldP hSd)).mono ?_
   rintro e w6 ⟨x,rfl,hx64,hx,rfl⟩
   refine ⟨_,rfl,S,fun _ h=>h,hSd,(pg hp hp64 0 2 (by decide) (by decide) _).mono ?_⟩
   rintro e w7 ⟨y,rfl,hy,hy64,rfl⟩
   rw [Nat.zero_mul,Nat.zero_add] at hy
   have hxy:=oA hx64 hy64
   obtain ⟨ga,w8,r8,k8⟩:=(St.start w5.drew).lit Ou [.int .u64 (p:Int),.int .u64 ((x^^^y:Nat):Int)] (by simp [Value.oneCell']) (by simp)
   have hS8:S w8:=Sx.St.same hSd k8.chg
   refine ⟨_,rfl,S,fun _ h=>h,hSd,_,_,_,w8,by rw [x64 hx64 hy64];exact r8,S,fun _ h=>h,hS8,(KB p (x^^^y) hp64 hxy _ _ w8 (k8.rd (i:=0) rfl)).mono ?_⟩
   rintro e w9 ⟨gg,rfl,hg,_,rfl⟩
   have hAl:oT p (x^^^y)↔oT p (sqs 2 (n / q)^^^2):=Dj (by
     rw [DD]
     have h1:=hx.dv
     have h2:=hy.dv
     rw [Nat.xor_comm] at h1 h2
     exact h1.xor h2)
   refine ⟨_,rfl,S,fun _ h=>h,hS8,fun hne=>?_,fun heq=>?_⟩
   · refine ⟨false,rfl,⟨fun h=>(by cases h),fun hI=>?_⟩,Sx.St.chg hS8⟩
     have h1:=(R.2 hI).1 q hqm
     have h2:=hg.alone.2 (hAl.2 h1)
     subst h2
     simp at hne
   · have hg1 : gg = 1 := by have : ((gg : Nat) : Int) = 1 := by simpa using heq
                             omega
     refine ⟨⟨i+1,ay hi' (by omega),by omega,fun q' hq'=>?_,hS8⟩,aB hi' (by omega)⟩
     rw [List.take_add_one,hq] at hq'
     rcases List.mem_append.1 hq' with h1 | h1
     · exact hA q' h1
     · simp only [Option.toList_some,List.mem_singleton] at h1
       subst h1
       exact hAl.1 (hg.alone.1 hg1)
 · have hi':i=Q.length:=by simp at h;omega
   rw [hi',List.take_length] at hA
   refine ⟨S,hSd,_,fun w' hw=>ldP hw,275,[.pointer (some ⟨g,0,none⟩)],rfl,by kernel_rfl,(vN hp hp64 g n (by omega) w5.drew (ldP hSd)).mono ?_⟩
   rintro e w6 ⟨x,rfl,hx64,hx,rfl⟩
   refine ⟨_,rfl,S,fun _ h=>h,hSd,(pg hp hp64 0 2 (by decide) (by decide) _).mono ?_⟩
   rintro e w7 ⟨y,rfl,hy,hy64,rfl⟩
   rw [Nat.zero_mul,Nat.zero_add] at hy
   refine ⟨_,rfl,S,fun _ h=>h,hSd,_,rfl,?_,Sx.St.chg hSd⟩
   have hb:(((x:Nat):Int)==((y:Nat):Int))=true↔x=y:=by simp;omega
   rw [hb,HQ hp hx hy,←R]
   exact ⟨fun h=>⟨hA,h⟩,fun h=>h.2⟩

structure iS where
 poly:Nat
 win:Int
 min:Int
 max:Int
 bits:Int
def cZ (s:iS):List Value:=[.int .u64 (s.poly:Int),.int .i64 s.win,.int .i64 s.min,.int .i64 s.max,.int .i64 s.bits]
noncomputable def Hg (p:Nat):Bool:= @decide (Irr p) (Classical.propDecidable _)
theorem D4 (p:Nat):Hg p=true↔Irr p:=by unfold Hg;exact @decide_eq_true_iff _ (Classical.propDecidable _)
noncomputable def gd1 (s:iS):Bool:=(decide (8≤mB s.poly)&&decide (mB s.poly≤55))&&Hg s.poly
def gd2 (s:iS):Bool:=decide (1≤s.win)&&decide (s.win≤64)
def gd3 (s:iS):Bool:=decide (s.win≤s.min)&&(decide (s.min≤s.max)&&decide (s.max≤65536))
def gd4 (s:iS):Bool:=decide (0≤s.bits)&&(decide (s.bits≤mB s.poly)&&decide (s.bits≤20))
noncomputable def bO (s:iS):Bool:=gd1 s&&(gd2 s&&(gd3 s&&gd4 s))

theorem Mf {p:Nat} (hp:p<W64) (h8:8≤mB p):∃n,bk p n∧1≤n∧mB p=n:=by
 have h0:p≠0:=by rintro rfl;simp [mB,lJ] at h8
 have hd:=aS h0
 have he:=kS hd
 exact ⟨p.log2,hd,by omega,he⟩
theorem Ow {p:Nat} (hp:p<W64) (h8:8≤mB p) (w:World):Calls Tryz.prog 206 #[.int .u64 (p:Int)] w fun e w'=>e=.returned (.bool (Hg p))∧Chg [] w w':=by
 obtain ⟨n,hd,hn,_⟩:=Mf hp h8
 refine (I4 hd hn hp w).mono ?_
 rintro e w1 ⟨b,rfl,hb,c1⟩
 refine ⟨?_,c1⟩
 have:b=Hg p:=by rw [Bool.eq_iff_iff,hb,D4]
 rw [this]

set_option maxHeartbeats 1000000 in
theorem nv (s:iS) (hp:s.poly<W64) (w:World):Calls Tryz.prog 105 #[.agg (cZ s).toArray] w fun e w'=>e=.returned (bG (if bO s then none else some 11))∧Chg [] w w':=by
 apply xN
 obtain ⟨g,w1,r1,k1⟩:=(St.start w).cz (P:=Tryz.prog) 44 (cZ s)
 let K:World→Prop:=fun w'=>St w [] w' [.arr g 44 (cZ s)]
 have k1:K w1:=k1
 have ldU:∀ {w'},K w'→(Instr.loadAt 42 (.pointer (some ⟨g,0,none⟩))).run Tryz.prog w'=.ok (.int .u64 (s.poly:Int)) w':=fun h=>Sx.St.ldL h (i:=0) (o:=0) rfl (MX _) rfl rfl
 have ldI:∀ {w'} (o:Nat) (z:Int),(cZ s)[o]?=some (.int .i64 z)→K w'→(Instr.loadAt 3 (.pointer (some ⟨g,o,none⟩))).run Tryz.prog w'=.ok (.int .i64 z) w':=fun o z hz h=>by
   have:=Sx.St.ldL h (i:=0) (o:=o) rfl (EN _) rfl hz
   exact this
 let B:World→Prop:=fun w'=>bO s=false∧K w'
 refine ⟨g,w1,r1,_,ldU k1,(ou s.poly hp w1).mono ?_⟩
 rintro e w2 ⟨rfl,rfl⟩
 refine ⟨_,rfl,fun b w'=>b= !gd1 s∧K w',⟨fun h=>?_,fun h=>?_⟩,?_⟩
 · refine ⟨?_,k1⟩
   simp only [Bool.or_eq_true,decide_eq_true_eq] at h
   have:gd1 s=false:=by
     unfold gd1
     rcases h with h | h
     · rw [decide_eq_false (by omega:¬8≤mB s.poly)];rfl
     · rw [decide_eq_false (by omega:¬mB s.poly≤55)];simp
   rw [this];rfl
 · simp only [Bool.or_eq_false_iff,decide_eq_false_iff_not] at h
   refine ⟨_,ldU k1,(Ow hp (by omega) w2).mono ?_⟩
   rintro e w3 ⟨rfl,c3⟩
   refine ⟨_,rfl,?_,Sx.St.same k1 c3⟩
   rw [gd1,decide_eq_true (by omega:8≤mB s.poly),decide_eq_true (by omega:mB s.poly≤55)]
   rfl
 rintro b w4 ⟨rfl,k4⟩
 refine ⟨B,⟨fun h=>⟨?_,k4⟩,fun h1=>⟨fun b w'=>b= !gd2 s∧K w',⟨_,ldI 1 _ rfl k4,fun h=>⟨?_,k4⟩,fun h=>⟨_,ldI 1 _ rfl k4,?_,k4⟩⟩,?_⟩⟩,?_⟩
 · simp only [bO,Bool.not_eq_true'] at h ⊢;rw [h];rfl
 · simp only [decide_eq_true_eq] at h
   rw [gd2,decide_eq_false (by omega:¬1≤s.win)];rfl
 · simp only [decide_eq_false_iff_not] at h
   rw [gd2,decide_eq_true (by omega:1≤s.win),Bool.true_and,←decide_not]
   exact decide_eq_decide.2 (by omega)
 · rintro b w5 ⟨rfl,k5⟩
   refine ⟨B,⟨fun h=>⟨?_,k5⟩,fun h2=>⟨fun b w'=>b= !gd3 s∧K w',⟨_,ldI 2 _ rfl k5,_,ldI 1 _ rfl k5,fun h=>⟨?_,k5⟩,fun h=>⟨_,ldI 3 _ rfl k5,_,ldI 2 _ rfl k5,fun h'=>⟨?_,k5⟩,fun h'=>⟨_,ldI 3 _ rfl k5,?_,k5⟩⟩⟩,?_⟩⟩,?_⟩
   · simp only [bO,Bool.not_eq_true'] at h ⊢;rw [h];simp
   · simp only [decide_eq_true_eq] at h
     rw [gd3,decide_eq_false (by omega:¬s.win≤s.min)];rfl
   · simp only [decide_eq_true_eq] at h'
     rw [gd3,decide_eq_false (by omega:¬s.min≤s.max)];simp
   · simp only [decide_eq_false_iff_not] at h h'
     rw [gd3,decide_eq_true (by omega:s.win≤s.min),decide_eq_true (by omega:s.min≤s.max),Bool.true_and,Bool.true_and,←decide_not]
     exact decide_eq_decide.2 (by omega)
   · rintro b w6 ⟨rfl,k6⟩
     refine ⟨B,⟨fun h=>⟨?_,k6⟩,fun h3=>⟨fun b w'=>b= !gd4 s∧K w',⟨_,ldI 4 _ rfl k6,fun h=>⟨?_,k6⟩,fun h=>⟨_,ldI 4 _ rfl k6,fun h'=>⟨?_,k6⟩,fun h'=>⟨_,ldI 4 _ rfl k6,?_,k6⟩⟩⟩,?_⟩⟩,?_⟩
     · simp only [bO,Bool.not_eq_true'] at h ⊢;rw [h];simp
     · simp only [decide_eq_true_eq] at h
       rw [gd4,decide_eq_false (by omega:¬0≤s.bits)];rfl
     · simp only [decide_eq_true_eq] at h'
       rw [gd4,decide_eq_false (by omega:¬s.bits≤mB s.poly)];simp
     · simp only [decide_eq_false_iff_not] at h h'
       rw [gd4,decide_eq_true (by omega:0≤s.bits),decide_eq_true (by omega:s.bits≤mB s.poly),Bool.true_and,Bool.true_and,←decide_not]
       exact decide_eq_decide.2 (by omega)
     · rintro b w7 ⟨rfl,k7⟩
       refine ⟨fun h=>⟨?_,k7⟩,fun h4=>⟨?_,k7.chg⟩⟩
       · simp only [bO,Bool.not_eq_true'] at h ⊢;rw [h];simp
       · simp only [Bool.not_eq_false'] at h1 h2 h3 h4
         rw [bO,h1,h2,h3,h4];rfl
     · rintro w8 h8;exact h8
   · rintro w9 h9;exact h9
 · rintro w10 ⟨h10,k10⟩
   rw [h10]
   exact ⟨rfl,k10.chg⟩

end Go.Proofs.YtpmhjnhgpplmnaaGreatDoor
end

section
namespace Go.Proofs.YtpmhjnhgpplmnaaGreatDoor
open Go Sx Gf2
set_option maxRecDepth 8000

def dg (s:iS):Bool:=decide (8≤mB s.poly)&&decide (mB s.poly≤55)
end Go.Proofs.YtpmhjnhgpplmnaaGreatDoor
end

section
namespace Go.Proofs.YtpmhjnhgpplmnaaGreatDoor
open Go Sx
set_option maxRecDepth 8000

structure cU where
 name:List UInt8
 time:Int
 size:Int
 chunks:Int
 root:List UInt8
 rl:root.length=32
def eE (s:cU):List Value:=[aK s.name,.int .i64 s.time,.int .i64 s.size,.int .i64 s.chunks]++bv s.root
theorem fk (s:cU):(eE s).length=36:=by simp [eE,s.rl]
theorem uL (s:cU):∀v∈eE s,v.oneCell'=true:=fun v hv=>by
 simp only [eE,List.mem_append,List.mem_cons,List.not_mem_nil,or_false] at hv
 rcases hv with (rfl | rfl | rfl | rfl) | h
 · rfl
 · rfl
 · rfl
 · rfl
 · exact aO _ v h
abbrev RdS (w:World) (a:Option Addr) (n c:Nat) (l:List cU):Prop:=RdE eE 36 w a n c l
def iv (l:List Int):List Value:=l.map fun z=>.int .i64 z
@[simp] theorem Oz (l:List Int):(iv l).length=l.length:=by simp [iv]
theorem Jf (l:List Int) (i:Nat):(iv l)[i]?=l[i]?.map fun z=>.int .i64 z:=by simp [iv]
theorem Ma (l:List Int):∀v∈iv l,v.oneCell'=true:=fun v hv=>by
 simp only [iv,List.mem_map] at hv
 obtain ⟨z,_,rfl⟩:=hv
 rfl

end Go.Proofs.YtpmhjnhgpplmnaaGreatDoor
end

section
namespace Go.Proofs.YtpmhjnhgpplmnaaGreatDoor
open Go Sx
set_option maxRecDepth 8000

def yP (s:List UInt8):Bool:=s.all (fun b=>decide (33≤b.toNat∧b.toNat≤126))&&(decide (1≤s.length)&&decide (s.length≤32))
theorem Le {s:List UInt8} {i:Nat} {b:UInt8} (p:UInt8→Bool) (hb:s[i]?=some b):(s.take (i+1)).all p=((s.take i).all p&&p b):=by
 rw [List.take_add_one,hb];simp

theorem Cz (s:List UInt8) (hs:s.length≤4611686018427387904) (w:World):Calls Tryz.prog 28 #[aK s] w fun e w'=>e=.returned (.bool (yP s))∧w'=w:=by
 apply pW
 rw [Ks,Kc]
 refine ⟨fun x w'=>∃i:Nat,x=(i:Int)∧i≤s.length∧(s.take i).all (fun b=>decide (33≤b.toNat∧b.toNat≤126))=true∧w'=w,fun x _=>s.length-x.toNat,⟨0,rfl,by omega,by simp,rfl⟩,?_⟩
 rintro x w1 ⟨i,rfl,hi,hA,rfl⟩
 refine ⟨fun h=>?_,fun h=>?_⟩
 · have hi':i<s.length:=by simp at h;omega
   have hix:=N6 (l:=s) (i:=i) hi' w1
   have hb:s[i]?=some (s.getD i 0):=by simp [List.getD,hi']
   obtain ⟨b,hbe⟩:∃b,s.getD i 0=b:=⟨_,rfl⟩
   rw [hbe] at hix hb
   refine ⟨fun y w'=>y= !decide (33≤b.toNat∧b.toNat≤126)∧w'=w1,⟨_,hix,fun h=>⟨?_,rfl⟩,fun h=>⟨_,hix,?_,rfl⟩⟩,?_⟩
   · simp only [decide_eq_true_eq] at h
     rw [decide_eq_false (by omega)];rfl
   · simp only [decide_eq_false_iff_not] at h
     rw [←decide_not]
     exact decide_eq_decide.2 (by omega)
   · rintro y w2 ⟨rfl,rfl⟩
     refine ⟨fun h=>⟨?_,rfl⟩,fun h=>⟨⟨i+1,ay hi' hs,by omega,?_,rfl⟩,aB hi' hs⟩⟩
     · have hbad:decide (33≤b.toNat∧b.toNat≤126)=false:=by rwa [Bool.not_eq_true'] at h
       have:s.all (fun b=>decide (33≤b.toNat∧b.toNat≤126))=false:=by
         rw [List.all_eq_false]
         exact ⟨b,List.mem_of_getElem? hb,by rw [hbad];simp⟩
       rw [yP,this];rfl
     · have hok:decide (33≤b.toNat∧b.toNat≤126)=true:=by rwa [Bool.not_eq_false'] at h
       rw [Le _ hb,hA,hok];rfl
 · have hi':i=s.length:=by simp at h;omega
   subst hi'
   rw [List.take_length] at hA
   refine ⟨?_,rfl⟩
   rw [yP,hA]
   cases s with
   | nil=>rfl
   | cons c r=>simp;omega
end Go.Proofs.YtpmhjnhgpplmnaaGreatDoor
end

section
namespace Go.Proofs.YtpmhjnhgpplmnaaGreatDoor
open Go Sx
set_option maxRecDepth 8000

def bM (s:cU):Bool:=yP s.name&&(decide (s.time≥(-1099511627776))&&(decide (s.time≤1099511627776)&&(decide (s.size≥0)&&(decide (s.chunks≥0)&&decide (s.chunks≤65536)))))
theorem GQ (w:World):(isAgg 9).run Tryz.prog w=.ok false w:=Tryz.isAgg9 w
theorem zF (s:cU) (hs:s.name.length≤4611686018427387904) (w:World):Calls Tryz.prog 106 #[.agg (eE s).toArray] w fun e w'=>e=.returned (.bool (bM s))∧Chg [] w w':=by
 apply l6
 obtain ⟨g,w1,r1,k1⟩:=(St.start w).cz (P:=Tryz.prog) 89 (eE s)
 have k1:St w [] w1 [.arr g 89 (eE s)]:=k1
 have ldI:∀(o:Nat) (z:Int),(eE s)[o]?=some (.int .i64 z)→(Instr.loadAt 3 (.pointer (some ⟨g,o,none⟩))).run Tryz.prog w1=.ok (.int .i64 z) w1:=fun o z hz=>by
   have:=k1.ldL (i:=0) (o:=o) rfl (EN _) rfl hz
   exact this
 refine ⟨g,w1,r1,_,k1.ldL (i:=0) (o:=0) rfl (GQ _) rfl rfl,(Cz s.name hs w1).mono ?_⟩
 rintro e w2 ⟨rfl,rfl⟩
 refine ⟨_,rfl,fun hn=>⟨_,ldI 1 _ rfl,fun h1=>⟨_,ldI 1 _ rfl,fun h2=>⟨_,ldI 2 _ rfl,fun h3=>⟨_,ldI 3 _ rfl,fun h4=>⟨_,ldI 3 _ rfl,?_,k1.chg⟩,fun h4=>⟨?_,k1.chg⟩⟩,fun h3=>⟨?_,k1.chg⟩⟩,fun h2=>⟨?_,k1.chg⟩⟩,fun h1=>⟨?_,k1.chg⟩⟩,fun hn=>⟨?_,k1.chg⟩⟩
 · rw [bM,hn,h1,h2,h3,h4];rfl
 · rw [bM,hn,h1,h2,h3,h4];rfl
 · rw [bM,hn,h1,h2,h3];rfl
 · rw [bM,hn,h1,h2];rfl
 · rw [bM,hn,h1];rfl
 · rw [bM,hn];rfl

structure PkD where
 num:Int
 size:Int
 count:Int
def pkC (p:PkD):List Value:=[.int .i64 p.num,.int .i64 p.size,.int .i64 p.count]
structure bH where
 gen:Int
 next:Int
 set:iS
 snaps:List cU
 aq:List PkD
def bP (C:bH) (sa:Option Addr) (sn sc:Nat) (pa:Option Addr) (pn pc:Nat):List Value:=[.int .i64 C.gen,.int .i64 C.next]++(cZ C.set++ [.slice sa sn sc,.slice pa pn pc])
theorem J4 (C:bH) (sa:Option Addr) (sn sc:Nat) (pa:Option Addr) (pn pc:Nat):(bP C sa sn sc pa pn pc).length=9:=rfl
structure AQ (w:World) (C:bH) (sa:Option Addr) (sn sc:Nat) (pa:Option Addr) (pn pc:Nat):Prop where
 poly:C.set.poly<W64
 snaps:RdS w sa sn sc C.snaps
 aq:RdE pkC 3 w pa pn pc C.aq
 names:∀s∈C.snaps,s.name.length≤4611686018427387904
theorem AQ.au {w w':World} {C:bH} {sa:Option Addr} {sn sc:Nat} {pa:Option Addr} {pn pc:Nat} (h:AQ w C sa sn sc pa pn pc) (hc:Chg [] w w'):AQ w' C sa sn sc pa pn pc:=⟨h.poly,h.snaps.au hc,h.aq.au hc,h.names⟩
def vK (l:List cU) (j:Nat):Bool:=j==0||lexLt (((l[j-1]?).map cU.name).getD []) (((l[j]?).map cU.name).getD [])
def DU (l:List cU):Bool:=(List.range l.length).all (vK l)
def iR (next:Int):Int→List PkD→Bool
 | _,[]=>true
 | last,p::r=>(decide (last<p.num)&&(decide (p.num<next)&&(decide (0≤p.size)&&decide (0≤p.count))))&&iR next p.num r
noncomputable def jA (C:bH):Bool:=(decide (1≤C.gen)&&(decide (C.gen≤1099511627776)&&(decide (0≤C.next)&&decide (C.next≤1099511627776))))&&(bO C.set&&(decide (C.snaps.length≤64)&&decide (C.aq.length≤1024)))
noncomputable def aI (C:bH):Bool:=jA C&&(C.snaps.all bM&&(DU C.snaps&&iR C.next (-1) C.aq))

end Go.Proofs.YtpmhjnhgpplmnaaGreatDoor
end

section
namespace Go.Proofs.YtpmhjnhgpplmnaaGreatDoor.Sx
open Go
set_option maxRecDepth 8000

theorem Jr (l m:List UInt8):((⟨l.toArray⟩:ByteArray)==⟨m.toArray⟩)=decide (l=m):=by
 show (l.toArray==m.toArray)=decide (l=m)
 by_cases h:l=m
 · subst h;simp
 · have:¬l.toArray=m.toArray:=fun e=>h (by have:=congrArg Array.toList e;simpa using this)
   simp [h]

theorem vS {α:Type} {val:α→Value} {kid:α→List UInt8} (id:List UInt8):∀(L:List MapEntry) (M:List α) (i:Nat),L.map (fun x=>(x.key,x.val))=M.map (fun r=>(aK (kid r),val r))→
   Instr.findNow .string (aK id) L i=some ((M.findIdx? fun r=>kid r==id).bind fun j=>(M[j]?).map fun r=>(i+j,val r))
 | [],[],i,_=>by simp [Instr.findNow]
 | [],r::M,i,he=>by simp at he
 | x::L,[],i,he=>by simp at he
 | x::L,r::M,i,he=>by
   simp only [List.map_cons,List.cons.injEq,Prod.mk.injEq] at he
   obtain ⟨⟨e1,e2⟩,e3⟩:=he
   have ih:=vS (val:=val) (kid:=kid) id L M (i+1) e3
   have hs:Instr.sameNow .string (aK id) x.key=some (decide (id=kid r)):=by
     rw [e1,aK,aK]
     simp only [Instr.sameNow,Jr]
   rw [Instr.findNow,hs]
   by_cases h:kid r=id
   · simp [h,e2,List.findIdx?_cons]
   · have h':¬id=kid r:=fun e=>h e.symm
     simp only [h',decide_false,ih,List.findIdx?_cons,beq_iff_eq,h,if_false]
     cases hf:M.findIdx? fun r=>kid r==id with
     | none=>simp
     | some j=>simp [Nat.add_assoc,Nat.add_comm 1]

theorem Lj {P:Program} {KT:TypeId} (hT:P.underlying KT=some .string) (id:List UInt8) (em:Bool) (d:Nat) (w:World):(Instr.checkKey em (d+1) KT (aK id)).run P w=.ok () w:=by
 simp [Instr.checkKey,run_underlying hT,aK]
theorem I9 (id:List UInt8) (d:Nat):Instr.sameBits (d+1) (aK id) (aK id)=true:=by
 simp only [Instr.sameBits,aK,Jr,decide_true]

theorem LA {P:Program} {KT:TypeId} (hT:P.underlying KT=some .string):FK P KT aK (fun _=>True):=
 ⟨fun id _ em w=>Lj hT id em 9999 w,
  fun α val kid L M id _ w he _=>by
   have:=vS (val:=val) (kid:=kid) id L M 0 he
   simp only [Nat.zero_add] at this
   simp only [Instr.findKey,Sem.run_bind,run_underlying hT,Result.andThen_ok,this]
   rfl,
  fun id w=>by
   unfold Instr.keyThatStays
   have:Instr.sameBits 10000 (aK id) (aK id)=true:=I9 id 9999
   simp [this]⟩

end Go.Proofs.YtpmhjnhgpplmnaaGreatDoor.Sx
end

section
namespace Go.Proofs.YtpmhjnhgpplmnaaGreatDoor
open Go Go.Proofs.YtpmhjnhgpplmnaaGreatDoor.Sx
set_option maxRecDepth 100000
variable (w:World) (R:Ending→World→Prop)
abbrev MF (a:Value) (b:World) (c:Ending→World→Prop) (d e:Int) (f:Value):Prop:=Nez .neq 58 (.tmp 18) a b fun g=>Ifz g (c (.returned (.tuple #[.slice none 0 0,a])) b) (∃a:Bool→World→Prop,Ifz (decide (d<(0:Int))||decide (e<(0:Int))) (a true b) (∃c g,f=.pointer (some ⟨c,g,none⟩)∧Llz 26 c g b fun c g h=>Ifz (decide (d>(g:Int))) (a true b) (∃c g,f=.pointer (some ⟨c,g,none⟩)∧Llz 26 c g b fun c f g=>a (decide (e>IntKind.wrap .i64 ((f:Int)-d))) b))∧∀b g,a b g→Ifz b (c (.returned (.tuple #[.slice none 0 0,.iface 65 (.int .i64 7)])) g) (∃a b,f=.pointer (some ⟨a,b,none⟩)∧Llz 26 a b g fun a b f=>0≤d∧d≤IntKind.wrap .i64 (d+e)∧IntKind.wrap .i64 (d+e)≤(f:Int)∧∀b,lT 1 a (Int.toNat d) f b→Clz 150 #[.slice b (Int.toNat (IntKind.wrap .i64 (d+e))-Int.toNat d) (f-Int.toNat d)] g fun a b d e=>c (.returned (.tuple #[.slice a b d,.nilIface])) e))
abbrev JX (a:World) (b:Array Value) (c d:Nat) (e:Ending→World→Prop):Prop:=Alz 164 a fun a f=>Stz 164 a 0 (.agg b) f fun b=>∃f:World→Prop,f b.drew∧∃g,(∀a,f a→(Instr.loadAt 149 (.pointer (some ⟨c,d+6,none⟩))).run Tryz.prog a=.ok g a)∧∃h,(∀b,f b→LdQ 164 a 0 (.agg h) b)∧Calls Tryz.prog 79 #[g,.agg h] b.drew fun b g=>b=.returned (.tuple #[])∧∃b:World→Prop,(∀a,b a→f a)∧b g∧∃b:World→Prop,b g.drew∧∃f h i,(∀a,b a→LdQ 150 c (d+8) (.slice f h i) a)∧∃j,(∀c,b c→LdQ 164 a 0 (.agg j) c)∧Bsz 150 1 #[(0,.agg j)] g.drew fun a g j k=>∃l:World→Prop,(∀a,l a→b a)∧l k∧Apz 150 (.slice f h i) (.slice a g j) k fun a b f g=>∃h:World→Prop,(∀a,h a→l a)∧h g∧Stz 150 c (d+8) (.slice a b f) g fun a=>e (.returned .nilIface) a
theorem Ej (a:Int) (h:Ifz (decide (a<(0:Int))||decide (a>(67108864:Int))) (R (.returned (.tuple #[.pointer none,.iface 65 (.int .i64 7)])) w) (∃b c,(Instr.makeMap 149 none).run Tryz.prog w=.ok b c∧∃d e,(Instr.makeMap 149 none).run Tryz.prog c=.ok d e∧Buz 152 #[(1,.int .i64 a),(2,b),(3,d)] e fun a=>Bxz 152 (.agg a) e fun a b=>R (.returned (.tuple #[.pointer (some ⟨a,0,none⟩),.nilIface])) b)):Calls Tryz.prog 55 #[.int .i64 a] w R:=af 0xd78395951c003d302bec22d Tryz.func55 (by kernel_rfl) h
theorem ug (a:ByteArray) (h:Ifz (a.toList==(ByteArray.mk #[]).toList||decide ((a.size:Int)>64)) (R (.returned (.bool false)) w) (∃(b:Int→World→Prop) (c:Int→World→Nat),b 0 w∧∀d e,b d e→Ifz (decide (d<(a.size:Int))) (∃f:Bool→World→Prop,(∃b,(Instr.index 9 (.string a) (.int .i64 d)).run Tryz.prog e=.ok (.int .u8 b) e∧Ifz (decide (b<(33:Int))) (f true e) (∃b,(Instr.index 9 (.string a) (.int .i64 d)).run Tryz.prog e=.ok (.int .u8 b) e∧Ifz (decide (b>(126:Int))) (f true e) (∃b,(Instr.index 9 (.string a) (.int .i64 d)).run Tryz.prog e=.ok (.int .u8 b) e∧f (b==(47:Int)) e)))∧∀a g,f a g→Ifz a (R (.returned (.bool false)) g) (b (IntKind.wrap .i64 (d+1)) g∧c (IntKind.wrap .i64 (d+1)) g<c d e)) (R (.returned (.bool true)) e))):Calls Tryz.prog 256 #[.string a] w R:=af 0x1d2b001d30d13d0523ace13d01b22ccd13d14113f128281a22d8200321d0111d12c1d222983d2001d303bec21d Tryz.func256 (by kernel_rfl) h
theorem qM (a b:Nat) (h:∃c:Bool→World→Prop,Lbz 4 a (b+2) w (fun d=>Ifz d (Liz 3 a (b+3) w (fun a=>c (a==(0:Int)) w)) (c false w))∧∀d e,c d e→Ifz d (Stz 4 a (b+1) (.bool true) e (fun a=>R (.returned (.iface 65 (.int .i64 1))) a)) (Liz 3 a b e (fun c=>Stz 3 a b (.int .i64 (IntKind.wrap .i64 (c+1))) e fun c=>Liz 3 a (b+3) c fun d=>Stz 3 a (b+3) (.int .i64 (IntKind.wrap .i64 (d- (1:Int)))) c fun c=>Llz 29 a (b+4) c fun d e f=>Ifz ((e:Int)==0) (R (.returned .nilIface) c) (Llz 29 a (b+4) c (fun d e f=>∃f g,d=some ⟨f,g,none⟩∧0≤(0:Int)∧0<(e:Int)∧Liz 3 f (g+Int.toNat (0:Int)*1) c fun d=>Ifz (d==(0:Int)) (Llz 29 a (b+4) c (fun d e f=>0≤(1:Int)∧1≤(e:Int)∧(e:Int)≤(f:Int)∧∀g,lT 1 d 1 f g→Stz 29 a (b+4) (.slice g (e-1) (f-1)) c fun a=>R (.returned (.iface 65 (.int .i64 2))) a)) (Llz 29 a (b+4) c (fun a b d=>∃d e,a=some ⟨d,e,none⟩∧0≤(0:Int)∧0<(b:Int)∧Liz 3 d (e+Int.toNat (0:Int)*1) c fun d=>∃e f,a=some ⟨e,f,none⟩∧0≤(0:Int)∧0<(b:Int)∧Stz 3 e (f+Int.toNat (0:Int)*1) (.int .i64 (IntKind.wrap .i64 (d- (1:Int)))) c fun a=>R (.returned .nilIface) a))))))):Calls Tryz.prog 178 #[.pointer (some ⟨a,b,none⟩)] w R:=af 0x1d068103873ec002d06d97342c30103873ec2001d30d73ec206e03ec06e03ec002d06ec30620d03e7c143e14111d11b31a221d Tryz.func178 (by kernel_rfl) h
theorem rB (a b:Nat) (c:Option Addr) (d e:Nat) (h:Lbz 4 a (b+1) w fun a=>Ifz a (R (.returned (.iface 65 (.int .i64 1))) w) (∃(a:Int→World→Prop) (b:Int→World→Nat),a 0 w∧∀e f,a e f→Ifz (decide (e<(d:Int))) (∃g h,c=some ⟨g,h,none⟩∧0≤e∧e<(d:Int)∧Lsz 9 g (h+Int.toNat e*1) f fun c=>Cbz 256 #[.string c] f fun c d=>Ifz (!c) (R (.returned (.iface 65 (.int .i64 6))) d) (a (IntKind.wrap .i64 (e+1)) d∧b (IntKind.wrap .i64 (e+1)) d<b e f)) (R (.returned .nilIface) f))):Calls Tryz.prog 177 #[.pointer (some ⟨a,b,none⟩),.slice c d e] w R:=af 0x1d2b002d3014141c01538c8200321d0112a1192a16143983d2002d304342c2072d21d Tryz.func177 (by kernel_rfl) h
theorem rG (a b:Nat) (c:ByteArray) (h:Bsz 166 1 #[(0,.string c)] w fun d e f g=>Cvv 177 #[.pointer (some ⟨a,b,none⟩),.slice d e f] g fun d e=>Nez .neq 58 (.tmp 13) d e fun f=>Ifz f (R (.returned (.tuple #[.pointer none,d])) e) (∃d,(Instr.loadAt 149 (.pointer (some ⟨a,b+6,none⟩))).run Tryz.prog e=.ok d e∧∃a b f,(Instr.lookup 149 d (.string c) true).run Tryz.prog e=.ok (.tuple #[a,.bool b]) f∧Ifz (!b) (R (.returned (.tuple #[.pointer none,.iface 65 (.int .i64 5)])) f) (R (.returned (.tuple #[a,.nilIface])) f))):Calls Tryz.prog 149 #[.pointer (some ⟨a,b,none⟩),.string c] w R:=af 0x3d003d32d20524929a193ec003d30431c0191475dc22d Tryz.func149 (by kernel_rfl) h
theorem p9 (a b:Nat) (c:ByteArray) (h:Bsz 166 1 #[(0,.string c)] w fun d e f g=>Cvv 177 #[.pointer (some ⟨a,b,none⟩),.slice d e f] g fun d e=>Nez .neq 58 (.tmp 14) d e fun f=>Ifz f (R (.returned d) e) (∃d,(Instr.loadAt 149 (.pointer (some ⟨a,b+6,none⟩))).run Tryz.prog e=.ok d e∧∃f g h,(Instr.lookup 149 d (.string c) true).run Tryz.prog e=.ok (.tuple #[f,.bool g]) h∧Ifz g (R (.returned (.iface 65 (.int .i64 4))) h) (∃d,(Instr.loadAt 149 (.pointer (some ⟨a,b+6,none⟩))).run Tryz.prog h=.ok d h∧∃e f,(Builtin.len_ #[149] 3 #[d]).run Tryz.prog h=.ok (.int .i64 e) f∧Ifz (decide (e≥(4096:Int))) (R (.returned (.iface 65 (.int .i64 19))) f) (Cvv 178 #[.pointer (some ⟨a,b,none⟩)] f (fun d e=>Nez .neq 58 (.tmp 39) d e fun f=>Ifz f (R (.returned d) e) (Buz 169 #[] e (fun d=>Bxz 169 (.agg d) e fun d e=>∃f,(Instr.loadAt 149 (.pointer (some ⟨a,b+6,none⟩))).run Tryz.prog e=.ok f e∧∃g,(Instr.mapUpdate 149 f (.string c) (.pointer (some ⟨d,0,none⟩))).run Tryz.prog e=.ok () g∧Llz 150 a (b+8) g fun e f h=>Buz 164 #[(0,.pointer (some ⟨d,0,none⟩)),(2,.string c)] g fun c=>Bsz 150 1 #[(0,.agg c)] g fun c d g i=>Apz 150 (.slice e f h) (.slice c d g) i fun c d e f=>Stz 150 a (b+8) (.slice c d e) f fun a=>R (.returned .nilIface) a))))))):Calls Tryz.prog 144 #[.pointer (some ⟨a,b,none⟩),.string c] w R:=af 0x1d06d757583d7342c06d93ec01783c002d30431c01914ec2002d3010593ec2002d31d0524929a193ec2002d30431c0191475dc21d Tryz.func144 (by kernel_rfl) h
theorem qh (a b:Nat) (c:ByteArray) (d:Option Addr) (e f:Nat) (h:C2z 149 #[.pointer (some ⟨a,b,none⟩),.string c] w fun c f g=>Nez .neq 58 (.tmp 21) f g fun h=>Ifz h (R (.returned f) g) (∃f:World→Prop,f g.drew∧∃h,(∀c,f c→LdQ 3 a (b+5) (.int .i64 h) c)∧Ciz 228 #[.pointer (some ⟨a,b,none⟩)] g.drew fun g i=>∃j:World→Prop,(∀a,j a→f a)∧j i∧∃(f:Int→Int→World→Prop) (j:Int→Int→World→Nat),f (IntKind.wrap .i64 (h-g)) 0 i∧∀g h i,f g h i→Ifz (decide (h<(e:Int))) (∃a b,d=some ⟨a,b,none⟩∧0≤h∧h<(e:Int)∧Llz 26 a (b+Int.toNat h*1) i fun a b c=>Ifz (decide ((b:Int)>g)) (R (.returned (.iface 65 (.int .i64 3))) i) (f (IntKind.wrap .i64 (g- (b:Int))) (IntKind.wrap .i64 (h+1)) i∧j (IntKind.wrap .i64 (g- (b:Int))) (IntKind.wrap .i64 (h+1)) i<j g h i)) (Cvv 178 #[.pointer (some ⟨a,b,none⟩)] i (fun a b=>Nez .neq 58 (.tmp 51) a b fun f=>Ifz f (R (.returned a) b) (∃(a:Int→World→Prop) (f:Int→World→Nat),a 0 b∧∀b g,a b g→Ifz (decide (b<(e:Int))) (∃h i,d=some ⟨h,i,none⟩∧0≤b∧b<(e:Int)∧Llz 26 h (i+Int.toNat b*1) g fun d e h=>∃i j,c=.pointer (some ⟨i,j,none⟩)∧Llz 26 i j g fun i j k=>Apz 26 (.slice i j k) (.slice d e h) g fun d e h i=>∃j k,c=.pointer (some ⟨j,k,none⟩)∧Stz 26 j k (.slice d e h) i fun c=>a (IntKind.wrap .i64 (b+1)) c∧f (IntKind.wrap .i64 (b+1)) c<f b g) (R (.returned .nilIface) g)))))):Calls Tryz.prog 145 #[.pointer (some ⟨a,b,none⟩),.string c,.slice d e f] w R:=af 0x1d2b061ea751731ead101738c8200321d0117811e7811e2983d2002d30431c01914ec22b5b002d34d201738c8200321d00214911921e4911b119164983d20076220185403342104252002d30431c20529924dc1d Tryz.func145 (by kernel_rfl) h
theorem sC (a b:Nat) (c:ByteArray) (h:C2z 149 #[.pointer (some ⟨a,b,none⟩),.string c] w fun c d e=>Nez .neq 58 (.tmp 14) d e fun f=>Ifz f (R (.returned d) e) (Cvv 178 #[.pointer (some ⟨a,b,none⟩)] e (fun a b=>Nez .neq 58 (.tmp 21) a b fun d=>Ifz d (R (.returned a) b) (∃a d,c=.pointer (some ⟨a,d,none⟩)∧Llz 26 a d b fun a d e=>∃a e,c=.pointer (some ⟨a,e,none⟩)∧Stz 3 a (e+1) (.int .i64 (d:Int)) b fun a=>R (.returned .nilIface) a)))):Calls Tryz.prog 146 #[.pointer (some ⟨a,b,none⟩),.string c] w R:=af 0x1d061ea1731eadc002d30431c01914ec2002d30431c20529924dc1d Tryz.func146 (by kernel_rfl) h
theorem oC (a b:Nat) (h:Cvv 177 #[.pointer (some ⟨a,b,none⟩),.slice none 0 0] w fun c d=>Nez .neq 58 (.tmp 7) c d fun e=>Ifz e (R (.returned c) d) (Cvv 178 #[.pointer (some ⟨a,b,none⟩)] d (fun c d=>Nez .neq 58 (.tmp 14) c d fun e=>Ifz e (R (.returned c) d) (∃c,(Instr.loadAt 149 (.pointer (some ⟨a,b+6,none⟩))).run Tryz.prog d=.ok c d∧Cvv 78 #[c] d fun c d=>∃e,(Instr.storeAt 149 (.pointer (some ⟨a,b+7,none⟩)) c).run Tryz.prog d=.ok () e∧Stz 150 a (b+8) (.slice none 0 0) e fun a=>R (.returned .nilIface) a)))):Calls Tryz.prog 84 #[.pointer (some ⟨a,b,none⟩)] w R:=af 0x1d06ec06d9149342c002d30431c01914ec2002d30431c019141c21d Tryz.func84 (by kernel_rfl) h
theorem qq (a b:Nat) (c d:ByteArray) (h:Bsz 166 2 #[(0,.string c),(1,.string d)] w fun e f g h=>Cvv 177 #[.pointer (some ⟨a,b,none⟩),.slice e f g] h fun e f=>Nez .neq 58 (.tmp 17) e f fun g=>Ifz g (R (.returned e) f) (C2z 149 #[.pointer (some ⟨a,b,none⟩),.string c] f (fun e f g=>Nez .neq 58 (.tmp 26) f g fun e=>Ifz e (R (.returned f) g) (Cvv 178 #[.pointer (some ⟨a,b,none⟩)] g (fun e f=>Nez .neq 58 (.tmp 33) e f fun g=>Ifz g (R (.returned e) f) (Buz 164 #[(1,.string c),(2,.string d)] f (fun c=>JX f c a b R))))))):Calls Tryz.prog 190 #[.pointer (some ⟨a,b,none⟩),.string c,.string d] w R:=af 0x1d11a1041a41918227274726485374332104252000854843933210325206783dc002d30431c01914ec2002d30431c0529924dc2002d30431c0191475ec21d Tryz.func190 (by kernel_rfl) h
theorem pR (a b:Nat) (c:ByteArray) (h:C2z 149 #[.pointer (some ⟨a,b,none⟩),.string c] w fun d e f=>Nez .neq 58 (.tmp 15) e f fun d=>Ifz d (R (.returned e) f) (Cvv 178 #[.pointer (some ⟨a,b,none⟩)] f (fun d e=>Nez .neq 58 (.tmp 22) d e fun f=>Ifz f (R (.returned d) e) (Buz 164 #[(1,.string c)] e (fun c=>JX e c a b R))))):Calls Tryz.prog 89 #[.pointer (some ⟨a,b,none⟩),.string c] w R:=af 0x1d11a1041a419182272747264853743321042520008548439332103252067831c002d30431c01914ec2002d30431c0529924dc21d Tryz.func89 (by kernel_rfl) h
theorem u7 (a:Value) (b:Array Value) (h:Bxz 164 (.agg b) w fun b c=>∃d,(Instr.loadAt 162 (.pointer (some ⟨b,0,none⟩))).run Tryz.prog c=.ok d c∧Eqz .neq 162 (.tmp 7) (.const (.pointer none)) d (.pointer none) c fun d=>Ifz d (Lsz 9 b 2 c (fun d=>∃e,(Instr.loadAt 162 (.pointer (some ⟨b,0,none⟩))).run Tryz.prog c=.ok e c∧∃b,(Instr.mapUpdate 149 a (.string d) e).run Tryz.prog c=.ok () b∧R (.returned (.tuple #[])) b)) (Lsz 9 b 1 c (fun d=>∃e f g,(Instr.lookup 149 a (.string d) true).run Tryz.prog c=.ok (.tuple #[e,.bool f]) g∧Ifz (!f) (R (.returned (.tuple #[])) g) (Lsz 9 b 1 g (fun c=>∃d f,(Builtin.delete_ #[149,9] 0 #[a,.string c]).run Tryz.prog g=.ok d f∧Lsz 9 b 2 f fun c=>∃d:World→Prop,Ifz (!(c.toList==(ByteArray.mk #[]).toList)) (Lsz 9 b 2 f (fun b=>∃c,(Instr.mapUpdate 149 a (.string b) e).run Tryz.prog f=.ok () c∧d c)) (d f)∧∀a,d a→R (.returned (.tuple #[])) a))))):Calls Tryz.prog 79 #[a,.agg b] w R:=af 0x6153d130043d1a01531c09553dc0032d20524929a53dc000693153dc3043931c207c Tryz.func79 (by kernel_rfl) h
theorem tM (a b:Nat) (c:ByteArray) (h:C2z 149 #[.pointer (some ⟨a,b,none⟩),.string c] w fun a b c=>Nez .neq 58 (.tmp 14) b c fun d=>Ifz d (R (.returned (.tuple #[.slice none 0 0,b])) c) (∃b d,a=.pointer (some ⟨b,d,none⟩)∧Llz 26 b d c fun a b d=>Clz 150 #[.slice a b d] c fun a b c d=>R (.returned (.tuple #[.slice a b c,.nilIface])) d)):Calls Tryz.prog 57 #[.pointer (some ⟨a,b,none⟩),.string c] w R:=af 0xd714731ea1c003d30431c20529924dc2d Tryz.func57 (by kernel_rfl) h
theorem pZ (a b:Nat) (c:ByteArray) (d e:Int) (h:C2z 149 #[.pointer (some ⟨a,b,none⟩),.string c] w fun a b c=>MF b c R d e a):Calls Tryz.prog 138 #[.pointer (some ⟨a,b,none⟩),.string c,.int .i64 d,.int .i64 e] w R:=af 0xd714942731ea1c003d3052731ead01a24cc42731ead02b23bc12be14115e13a2d1a22003d30431c20529924dc2d Tryz.func138 (by kernel_rfl) h
theorem tC (a b:Nat) (h:∃c,(Instr.loadAt 149 (.pointer (some ⟨a,b+6,none⟩))).run Tryz.prog w=.ok c w∧Cvv 174 #[c] w fun a b=>Clz 173 #[a] b fun a b c d=>R (.returned (.slice a b c)) d):Calls Tryz.prog 80 #[.pointer (some ⟨a,b,none⟩)] w R:=af 0x171491493ec072d21d Tryz.func80 (by kernel_rfl) h
theorem sX (a b:Nat) (h:∃c,(Instr.loadAt 149 (.pointer (some ⟨a,b+6,none⟩))).run Tryz.prog w=.ok c w∧∃a b,(Instr.range 149 c).run Tryz.prog w=.ok a b∧∃(c:Int→World→Prop) (d:Int→World→Nat),c 0 b∧∀b e,c b e→∃(f:Bool) (g:List Value) (h:World),(Instr.next a false 0).run Tryz.prog e=.ok (.tuple ⟨.bool f::g⟩) h∧Ifz f (∃f g i j,(Instr.entry a).run Tryz.prog h=.ok (.tuple #[f,.pointer (some ⟨g,i,none⟩)]) j∧Llz 26 g i j fun a f g=>c (IntKind.wrap .i64 (b+(f:Int))) j∧d (IntKind.wrap .i64 (b+(f:Int))) j<d b e) (R (.returned (.int .i64 b)) h)):Calls Tryz.prog 228 #[.pointer (some ⟨a,b,none⟩)] w R:=af 0x2d0e734210d6929ac8003201aac011311b1d151339809593ec21d072d21d Tryz.func228 (by kernel_rfl) h
theorem rK (a b:Nat) (h:Liz 3 a b w fun a=>R (.returned (.int .i64 a)) w):Calls Tryz.prog 61 #[.pointer (some ⟨a,b,none⟩)] w R:=af 0x10342c072d21d Tryz.func61 (by kernel_rfl) h
theorem rS (a b:Nat) (h:Lbz 4 a (b+1) w fun a=>R (.returned (.bool a)) w):Calls Tryz.prog 64 #[.pointer (some ⟨a,b,none⟩)] w R:=af 0xd4372c1d Tryz.func64 (by kernel_rfl) h
theorem jD (a:Option Addr) (b c:Nat) (d:Value) (h:∃(c:Int→World→Prop) (e:Int→World→Nat),c 0 w∧∀f g,c f g→Ifz (decide (f<(b:Int))) (∃h i,a=some ⟨h,i,none⟩∧0≤f∧f<(b:Int)∧Liz 3 h (i+Int.toNat f*1) g fun a=>∃(b:Nat) (h:List Value),d=.func (.func b) #[] ⟨h⟩∧gG Tryz.prog b=true∧Calls Tryz.prog b (([.int .i64 a]:List Value)++h).toArray g fun a b=>∃d,a=.returned (.bool d)∧Ifz d (R (.returned (.int .i64 f)) b) (c (IntKind.wrap .i64 (f+1)) b∧e (IntKind.wrap .i64 (f+1)) b<e f g)) (R (.returned (.int .i64 (-1))) g)):Calls Tryz.prog 166 #[.slice a b c,d] w R:=af 0x1d2b002d3041ba038ec2d8200321d0111811b18242983d21d Tryz.func166 (by kernel_rfl) h
theorem fC (a:Value) (h:Eqz .eql 149 (.tmp 3) (.const (.map none)) a (.map none) w fun b=>Ifz b (R (.returned (.map none)) w) (∃b c,(callFunc 172 #[.iface 149 a]).run Tryz.prog w=.ok (.value b) c∧∃a,(Instr.typeAssert b 20 149 false).run Tryz.prog c=.ok a c∧R (.returned a) c)):Calls Tryz.prog 78 #[a] w R:=af 0x1939dadc001d30431c21d Tryz.func78 (by kernel_rfl) h
end Go.Proofs.YtpmhjnhgpplmnaaGreatDoor
end

section
namespace Go.Proofs.YtpmhjnhgpplmnaaGreatDoor
open Go Sx
set_option maxRecDepth 8000

structure FR where
 g:Nat
 a:Option Addr
 c:Nat
 data:List UInt8
 syn:Nat
def FR.m (f:FR):b8:=⟨f.data,f.syn⟩
def FR.val (f:FR):Value:=.slice f.a f.data.length f.c
def FR.blk (f:FR):Res:=.arr f.g 169 [f.val,.int .i64 (f.syn:Int)]
def FR.row (f:FR):Res:=.row 5 1 f.val f.data.length (bv f.data)
def DR (FL:List FR) (N:List Res):List Res:=FL.map FR.blk++(FL.map FR.row++N)

theorem tv {FL:List FR} {i:Nat} {f:FR} (hi:FL[i]?=some f) (R N:List Res):(R++DR FL N).Perm (f.blk::f.row::(R++DR (FL.eraseIdx i) N)):=by
 obtain ⟨h1,_,h3⟩:=tO hi
 rw [h3]
 conv=>lhs;rw [h1]
 unfold DR
 simp only [List.map_append,List.map_cons]
 have e1:R++((FL.take i).map FR.blk++f.blk::(FL.drop (i+1)).map FR.blk++((FL.take i).map FR.row++f.row::(FL.drop (i+1)).map FR.row++N))=(R++(FL.take i).map FR.blk)++f.blk::(((FL.drop (i+1)).map FR.blk++(FL.take i).map FR.row)++f.row::((FL.drop (i+1)).map FR.row++N)):=by simp [List.append_assoc]
 rw [e1]
 refine List.perm_middle.trans (List.Perm.cons _ ?_)
 have e2:R++(FL.take i).map FR.blk++(((FL.drop (i+1)).map FR.blk++(FL.take i).map FR.row)++f.row::((FL.drop (i+1)).map FR.row++N))=(R++(FL.take i).map FR.blk++((FL.drop (i+1)).map FR.blk++(FL.take i).map FR.row))++f.row::((FL.drop (i+1)).map FR.row++N):=by simp [List.append_assoc]
 rw [e2]
 refine List.perm_middle.trans (List.Perm.cons _ (List.Perm.of_eq ?_))
 simp [List.append_assoc]

theorem eraseIdx_set {α:Type} (l:List α) (i:Nat) (x:α):(l.set i x).eraseIdx i=l.eraseIdx i:=by
 rw [List.eraseIdx_eq_take_drop_succ,List.eraseIdx_eq_take_drop_succ,List.take_set_of_le (Nat.le_refl i),List.drop_set_of_lt (by omega)]

def nI (gs:List Nat) (i:Nat):Value:=.pointer (some ⟨gs.getD i 0,0,none⟩)
def chC (gs:List Nat) (c:ChM):List Value:=[match c.made with | some i=>nI gs i | none=>.pointer none,aK c.fr,aK c.to]
theorem jL (gs:List Nat) (c:ChM):(chC gs c).length=3:=rfl
theorem tL (gs:List Nat) (c:ChM):∀v∈chC gs c,v.oneCell'=true:=by
 intro v hv
 simp only [chC,List.mem_cons,List.not_mem_nil,or_false] at hv
 rcases hv with rfl | rfl | rfl
 · cases c.made<;>rfl
 · rfl
 · rfl
def niv (l:List Nat):List Value:=l.map fun x:Nat=>Value.int .i64 (x:Int)

structure E2 (fl:List Nat) (fa:Option Addr) (fn fc:Nat) (F:Res):Prop where
 len:fl.length=fn
 le:fn≤fc
 at_:fn=0∨∃gf k L,fa=some ⟨gf,k,none⟩∧F=.arr gf 3 L∧(L.drop k).take fn=niv fl
 bd:∀x∈fl,x≤9223372036854775807

structure DP where
 av:Int
 fa:Option Addr
 fn:Nat
 fc:Nat
 gn:Nat
 gs:Nat
 ca:Option Addr
 cc:Nat
 FL:List FR
 F:Res
 esn:Array MapEntry
 ckn:Nat
 Mn:Dir
 ess:Array MapEntry
 cks:Nat
 Ms:Dir
def DP.ps (p:DP):List Nat:=p.FL.map FR.g
abbrev kyE (e:Ent):Value:=aK e.name
abbrev vlE (gs:List Nat) (e:Ent):Value:=nI gs e.file
structure DOk (m:ah) (p:DP):Prop where
 wf:WFD m
 files:p.FL.map FR.m=m.files
 arm:∀k,m.arm=some k→p.av=(k:Int)∧k≤9223372036854775807
 bN:E2 m.bN p.fa p.fn p.fc p.F
 oJ:bF kyE (vlE p.ps) p.esn p.ckn p.Mn
 isn:dA Ent.name p.Mn m.now
 maps:bF kyE (vlE p.ps) p.ess p.cks p.Ms
 iss:dA Ent.name p.Ms m.syn
def iU (m:ah) (p:DP):List Value:=[.int .i64 (m.steps:Int),.bool m.down,.bool m.arm.isSome,.int .i64 p.av,.slice p.fa p.fn p.fc,.int .i64 m.size,.map (some p.gn),.map (some p.gs),.slice p.ca m.chs.length p.cc]
def dM (gd:Nat) (m:ah) (p:DP):List Res:=[.arr gd 152 (iU m p),.blk p.gn (.map p.esn p.ckn),.blk p.gs (.map p.ess p.cks),.row 164 3 (.slice p.ca m.chs.length p.cc) m.chs.length (m.chs.flatMap (chC p.ps)),p.F]
def aj (w0:World) (X:List Nat) (w:World) (gd:Nat) (ps:List Nat) (m:ah) (N:List Res):Prop:=∃p,p.ps=ps∧DOk m p∧St w0 X w (dM gd m p++DR p.FL N)

section
variable {w0 w w':World} {X:List Nat} {N N':List Res} {gd:Nat} {ps:List Nat} {m:ah}

theorem aj.same (h:aj w0 X w gd ps m N) (hc:Chg [] w w'):aj w0 X w' gd ps m N:=by obtain ⟨p,hps,hp,hS⟩:=h;exact ⟨p,hps,hp,hS.same hc⟩
theorem aj.chg (h:aj w0 X w gd ps m N):Chg X w0 w:=by obtain ⟨p,_,hp,hS⟩:=h;exact hS.chg
theorem aj.wf (h:aj w0 X w gd ps m N):WFD m:=by obtain ⟨p,_,hp,hS⟩:=h;exact hp.wf
theorem KU {FL:List FR} (h:N.Perm N'):(DR FL N).Perm (DR FL N'):=List.Perm.append_left _ (List.Perm.append_left _ h)
theorem aj.vB (h:aj w0 X w gd ps m N) (hn:N.Perm N'):aj w0 X w gd ps m N':=by obtain ⟨p,hps,hp,hS⟩:=h;exact ⟨p,hps,hp,hS.perm (List.Perm.append_left _ (KU hn))⟩
theorem aj.tQ (h:aj w0 X w gd ps m N) (hn:N'.Sublist N):aj w0 X w gd ps m N':=by
 obtain ⟨p,hps,hp,hS⟩:=h
 exact ⟨p,hps,hp,hS.sub (List.Sublist.append_left (List.Sublist.append_left (List.Sublist.append_left hn _) _) _)⟩
theorem aj.rest (h:aj w0 X w gd ps m N):St w0 X w N:=by
 obtain ⟨p,hps,hp,hS⟩:=h
 exact hS.sub (((List.sublist_append_right _ _).trans (List.sublist_append_right _ _)).trans (List.sublist_append_right _ _))

theorem Il:gz Tryz.prog 166 9 1 16 (.string ByteArray.empty):=⟨by kernel_rfl,⟨Tryz.t9,by kernel_rfl,by kernel_rfl,by kernel_rfl,by kernel_rfl⟩,rfl,by decide⟩
theorem Dz (w:World):(isAgg 9).run Tryz.prog w=.ok false w:=Tryz.isAgg9 w
theorem OB (w:World):(sizeOf 9).run Tryz.prog w=.ok 1 w:=Tryz.sizeOf9 w
theorem jv (w:World):(isAgg 3).run Tryz.prog w=.ok false w:=Tryz.isAgg3 w
theorem Lo (w:World):(sizeOf 3).run Tryz.prog w=.ok 1 w:=Tryz.sizeOf3 w
theorem KI (w:World):(isAgg 4).run Tryz.prog w=.ok false w:=Tryz.isAgg4 w
theorem NN (w:World):(sizeOf 4).run Tryz.prog w=.ok 1 w:=Tryz.sizeOf4 w
theorem AY (w:World):(isAgg 149).run Tryz.prog w=.ok false w:=Tryz.isAgg149 w
theorem O5 (w:World):(sizeOf 149).run Tryz.prog w=.ok 1 w:=Tryz.sizeOf149 w
theorem GP (w:World):(isAgg 29).run Tryz.prog w=.ok false w:=Tryz.isAgg29 w
theorem O8 (w:World):(sizeOf 29).run Tryz.prog w=.ok 1 w:=Tryz.sizeOf29 w
theorem MR (w:World):(isAgg 150).run Tryz.prog w=.ok false w:=Tryz.isAgg150 w
theorem LC (w:World):(sizeOf 150).run Tryz.prog w=.ok 1 w:=Tryz.sizeOf150 w
theorem bsS (w:World):(sizeOf 26).run Tryz.prog w=.ok 1 w:=Tryz.sizeOf26 w
theorem zH:Tryz.prog.underlying 149=some (.map 9 162):=Tryz.underlying149
theorem HM (M:Dir):HL Tryz.prog 9 aK (fun _=>True) kyE Ent.name M:=⟨LA Tryz.underlying9,fun _=>rfl,fun _ _=>trivial⟩
theorem pfZ (w:World):(zeroValue 162).run Tryz.prog w=.ok (.pointer none) w:=Tryz.zeroValue162 w

theorem N4 {T:TypeId} (hT:Tryz.prog.underlying T=some .string) {l:Nm} {i:Nat} (hi:i<l.length) (w:World):(Instr.index T (.string ⟨l.toArray⟩) (.int .i64 (i:Int))).run Tryz.prog w=.ok (.int .u8 ((l.getD i 0).toNat:Int)) w:=by
 have h1:(⟨l.toArray⟩:ByteArray)[i]?=some (l.getD i 0):=by
   have h2:i<(⟨l.toArray⟩:ByteArray).size:=by show i<l.toArray.size;simpa using hi
   rw [getElem?_pos _ i h2]
   show some (l.toArray[i]'(by simpa using hi))=_
   simp [List.getD,hi]
 have h0:(0:Int)≤(i:Int):=by omega
 simp only [Instr.index,Sem.run_bind,asIntOf,Sem.run_pure,run_underlying hT,Result.andThen_ok,h0,if_true,Int.toNat_natCast,h1]

theorem LI (l:Nm):((⟨l.toArray⟩:ByteArray).size:Int)=(l.length:Int):=by show ((l.toArray.size:Nat):Int)=_;simp
theorem empty_eq (l:Nm):((⟨l.toArray⟩:ByteArray).toList==(ByteArray.mk #[]).toList)=decide (l.length=0):=by
 rw [ByteArray.toList_eq,ByteArray.toList_eq]
 cases l<;>rfl

theorem zo (l:Nm) (w:World):Calls Tryz.prog 256 #[aK l] w fun e w'=>e=.returned (.bool (cE l))∧w'=w:=by
 apply ug
 rw [empty_eq,LI]
 refine ⟨fun h=>?_,fun h=>?_⟩
 · have:cE l=false:=by
     unfold cE
     simp only [Bool.or_eq_true,decide_eq_true_eq] at h
     have:¬(0<l.length∧l.length≤64):=by omega
     by_cases h1:0<l.length<;>by_cases h2:l.length≤64<;>simp [h1,h2]<;>omega
   rw [this]
   exact ⟨rfl,rfl⟩
 · have hl:0<l.length∧l.length≤64:=by
     simp only [Bool.or_eq_false_iff,decide_eq_false_iff_not] at h
     omega
   refine ⟨fun x w'=>∃i:Nat,x=(i:Int)∧i≤l.length∧(l.take i).all qE=true∧w'=w,fun x _=>l.length-x.toNat,⟨0,rfl,by omega,by simp,rfl⟩,?_⟩
   rintro x w1 ⟨i,rfl,hi,hall,rfl⟩
   refine ⟨fun h=>?_,fun h=>?_⟩
   · have hi':i<l.length:=by simp at h;omega
     have hx:=N4 (T:=9) Tryz.underlying9 hi' w1
     have hb:l[i]?=some (l.getD i 0):=by simp [List.getD,hi']
     obtain ⟨b,hbd⟩:∃b,l.getD i 0=b:=⟨_,rfl⟩
     rw [hbd] at hx hb
     refine ⟨fun y w'=>y= !qE b∧w'=w1,⟨_,hx,fun h1=>⟨?_,rfl⟩,fun h1=>⟨_,hx,fun h2=>⟨?_,rfl⟩,fun h2=>⟨_,hx,?_,rfl⟩⟩⟩,?_⟩
     · simp only [decide_eq_true_eq] at h1
       have:¬33≤b.toNat:=by omega
       simp [qE,this]
     · simp only [decide_eq_true_eq] at h2
       have:¬b.toNat≤126:=by omega
       simp [qE,this]
     · simp only [decide_eq_false_iff_not] at h1 h2
       have e1:33≤b.toNat:=by omega
       have e2:b.toNat≤126:=by omega
       by_cases h3:b.toNat=47
       · simp [qE,h3]
       · have:¬((b.toNat:Int)=47):=by omega
         simp [qE,e1,e2,h3,this]
     · rintro y w2 ⟨rfl,rfl⟩
       refine ⟨fun hbad=>?_,fun hgd=>⟨⟨i+1,ay hi' (by omega),by omega,?_,rfl⟩,aB hi' (by omega)⟩⟩
       · have:cE l=false:=by
           have h0:l.all qE=false:=by
             rw [List.all_eq_false]
             exact ⟨b,List.mem_of_getElem? hb,by simpa using hbad⟩
           simp [cE,h0]
         rw [this]
         exact ⟨rfl,rfl⟩
       · rw [List.take_add_one,hb,List.all_append,hall]
         simpa using hgd
   · have hi':i=l.length:=by simp at h;omega
     rw [hi',List.take_length] at hall
     have:cE l=true:=by simp [cE,hl.1,hl.2,hall]
     rw [this]
     exact ⟨rfl,rfl⟩

theorem aj.cell {p:DP} (hS:St w0 X w (dM gd m p++DR p.FL N)) {i:Nat} {v:Value} {T:TypeId} (hT:(isAgg T).run Tryz.prog w=.ok false w) (hv:(iU m p)[i]?=some v):(Instr.loadAt T (.pointer (some ⟨gd,i,none⟩))).run Tryz.prog w=.ok v w:=
 hS.ldL (i:=0) (o:=i) rfl hT rfl hv

theorem mS (a:Option Addr) (n c:Nat) (ns:List Nm) (h:aj w0 X w gd ps m N) (hr:Rd w a n c 1 (ns.map aK)) (hb:n≤1000000):
   Calls Tryz.prog 177 #[.pointer (some ⟨gd,0,none⟩),.slice a n c] w fun e w'=>e=.returned (bG (fI m ns))∧w'=w:=by
 have hln:ns.length=n:=by have:=hr.len;simpa using this
 obtain ⟨p,hps,hp,hS⟩:=h
 apply rB
 refine ⟨_,aj.cell hS (i:=1) (KI _) rfl,fun hd=>?_,fun hd=>?_⟩
 · rw [fI,hd]
   exact ⟨rfl,rfl⟩
 · refine ⟨fun x w'=>∃i:Nat,x=(i:Int)∧i≤n∧(ns.take i).all cE=true∧w'=w,fun x _=>n-x.toNat,⟨0,rfl,by omega,by simp,rfl⟩,?_⟩
   rintro x w1 ⟨i,rfl,hi,hall,rfl⟩
   refine ⟨fun h=>?_,fun h=>?_⟩
   · have hi':i<n:=by simp at h;omega
     have hx:(ns.map aK)[i]?=some (aK (ns.getD i [])):=by simp [List.getD,show i<ns.length by omega]
     have hx2:ns[i]?=some (ns.getD i []):=by simp [List.getD,show i<ns.length by omega]
     obtain ⟨nm,hnm⟩:∃nm,ns.getD i []=nm:=⟨_,rfl⟩
     rw [hnm] at hx hx2
     obtain ⟨b,o,ha,hcell⟩:=hr.cells.at_ hx
     refine ⟨b,o,ha,by omega,by omega,_,by rw [Int.toNat_natCast,Nat.mul_one];exact ld1 (Dz _) hcell,(zo nm w1).mono ?_⟩
     rintro e w2 ⟨rfl,rfl⟩
     refine ⟨_,rfl,fun hbad=>?_,fun hgd=>⟨⟨i+1,ay hi' (by omega),by omega,?_,rfl⟩,aB hi' (by omega)⟩⟩
     · have:ns.all cE=false:=by
         rw [List.all_eq_false]
         exact ⟨nm,List.mem_of_getElem? hx2,by simpa using hbad⟩
       rw [fI,hd,this]
       exact ⟨rfl,rfl⟩
     · rw [List.take_add_one,hx2,List.all_append,hall]
       simpa using hgd
   · have hi':i=n:=by simp at h;omega
     rw [hi',List.take_of_length_le (by omega)] at hall
     rw [fI,hd,hall]
     exact ⟨rfl,rfl⟩

theorem Ao {p:DP} (hp:DOk m p) (hg:w.heap[p.gn]?=some (.map p.esn p.ckn)) (n:Nm):(Instr.lookup 149 (.map (some p.gn)) (aK n) true).run Tryz.prog w=.ok (.tuple #[((findD m.now n).map (vlE p.ps)).getD (.pointer none),.bool (findD m.now n).isSome]) w:=by
 have hl:=hp.oJ.BK (P:=Tryz.prog) (HM p.Mn) zH hg (id:=n) trivial pfZ
 have hf:=hp.isn.find n
 rw [hl]
 cases hq:dN Ent.name p.Mn n with
 | none=>rw [hq] at hf;rw [show findD m.now n=none from hf.symm];rfl
 | some q=>rw [hq] at hf;rw [show findD m.now n=some q.2 from hf.symm];rfl

theorem iN (n:Nm) (h:aj w0 X w gd ps m N):
   Calls Tryz.prog 149 #[.pointer (some ⟨gd,0,none⟩),aK n] w fun e w'=>e=.returned (.tuple #[if bW m n=none then nI ps (cA m n) else .pointer none,bG (bW m n)])∧Chg [] w w':=by
 obtain ⟨mI,hI⟩:=eI
 apply rG
 obtain ⟨g,w1,r1,h1⟩:=(St.start w).lit Il [aK n] (by simp [Value.oneCell',aK]) (by simp)
 have h1':=h1.chg
 refine ⟨_,_,_,w1,r1,(mS _ _ _ [n] (h.same h1') (h1.rd (i:=0) rfl) (by simp)).mono ?_⟩
 rintro e w2 ⟨rfl,rfl⟩
 obtain ⟨p,hps,hp,hS⟩:=h
 have hrd:fI m [n]=if m.down then some 1 else if cE n then none else some 6:=by simp [fI]
 refine ⟨_,rfl,_,az hI _ _ _,fun hne=>?_,fun hok=>?_⟩
 · have hfr:bW m n=fI m [n]:=by
     rw [hrd] at hne ⊢
     unfold bW
     cases hd:m.down<;>cases hg:cE n<;>simp [hd,hg] at hne ⊢
   have hn0:¬bW m n=none:=fun e=>by rw [hfr] at e;rw [e] at hne;simp at hne
   rw [if_neg hn0,hfr]
   exact ⟨rfl,h1'⟩
 · have hdn:m.down=false∧cE n=true:=by
     rw [hrd] at hok
     cases hd:m.down<;>cases hg:cE n<;>simp [hd,hg] at hok ⊢
   have hS1:=hS.same h1'
   have hlk:=Ao hp (w:=w2) (hS1.holds 1 _ rfl) n
   refine ⟨_,aj.cell hS1 (i:=6) (AY _) rfl,_,_,w2,hlk,fun hno=>?_,fun hyes=>?_⟩
   · have hf:findD m.now n=none:=by
       cases hq:findD m.now n with
       | none=>rfl
       | some e=>rw [hq] at hno;simp at hno
     have:bW m n=some 5:=by simp [bW,hdn.1,hdn.2,hf]
     rw [this]
     exact ⟨rfl,h1'⟩
   · obtain ⟨e,hf⟩:∃e,findD m.now n=some e:=by
       cases hq:findD m.now n with
       | none=>rw [hq] at hyes;simp at hyes
       | some e=>exact ⟨e,rfl⟩
     have hfe:bW m n=none:=by simp [bW,hdn.1,hdn.2,hf]
     have hfi:cA m n=e.file:=by simp [cA,hf]
     rw [hfe,hf,hfi,←hps]
     exact ⟨rfl,h1'⟩

theorem DOk.file {p:DP} (hp:DOk m p) {i:Nat} (hi:i<m.files.length):∃f,p.FL[i]?=some f∧p.ps.getD i 0=f.g∧fileAt m.files i=⟨f.data,f.syn⟩:=by
 have hl:p.FL.length=m.files.length:=by have:=congrArg List.length hp.files;simpa using this
 have hf:p.FL[i]?=some p.FL[i]:=List.getElem?_eq_getElem (by omega)
 refine ⟨p.FL[i],hf,?_,?_⟩
 · simp [DP.ps,List.getD,show i<p.FL.length by omega]
 · rw [←hp.files]
   simp [fileAt,List.getD,show i<p.FL.length by omega,FR.m]

theorem St.wP {R:List Res} {FL:List FR} {i:Nat} {f:FR} (h:St w0 X w (R++DR FL N)) (hf:FL[i]?=some f):
   (Instr.loadAt 26 (.pointer (some ⟨f.g,0,none⟩))).run Tryz.prog w=.ok (.slice f.a f.data.length f.c) w∧(Instr.loadAt 3 (.pointer (some ⟨f.g,1,none⟩))).run Tryz.prog w=.ok (.int .i64 (f.syn:Int)) w∧RdB w f.a f.data.length f.c f.data:=by
 have h1:=h.perm (tv hf R N)
 exact ⟨h1.ldL (i:=0) (o:=0) rfl (bsA _) rfl rfl,h1.ldL (i:=0) (o:=1) rfl (jv _) rfl rfl,h1.rd (i:=1) rfl⟩

theorem pE (hw:WFD m) {n:Nm} (h:bW m n=none):cA m n<m.files.length∧∃e∈m.now,e.name=n∧e.file=cA m n∧findD m.now n=some e:=by
 have hf:∃e,findD m.now n=some e:=by
   unfold bW at h
   split at h
   · cases h
   · split at h
     · cases h
     · split at h
       · cases h
       · rename_i hq
         cases hz:findD m.now n with
         | none=>rw [hz] at hq;simp at hq
         | some e=>exact ⟨e,rfl⟩
 obtain ⟨e,hf⟩:=hf
 obtain ⟨h1,h2⟩:=eB hf
 have hfi:cA m n=e.file:=by simp [cA,hf]
 rw [hfi]
 exact ⟨(hw.dV.ent e h1).1,e,h1,h2,rfl,hf⟩

theorem St.yu {M:List Res} (h:St w0 X w M) {i g:Nat} {o o':Obj} (hi:M[i]?=some (.blk g o)):St w0 X (w.putObj g o') (M.set i (.blk g o')):=by
 have hg:w.heap[g]?=some o:=h.holds i _ hi
 have hlt:=(Array.getElem?_eq_some_iff.1 hg).1
 refine h.upd hi ⟨rfl,rfl,rfl,by simp,fun k hk hx=>?_⟩ (World.putObj_heap_same hlt) (by simp [Res.fp])
 exact World.putObj_heap_other fun e=>hx (by simp [Res.fp,e])

end

section
variable {w0 w w':World} {X:List Nat} {N N' T T':List Res} {gd:Nat} {ps:List Nat} {m:ah}

theorem aj.cR (h:aj w0 X w gd ps m N) (h':St w [] w' T):aj w0 X w' gd ps m (N++T):=by
 obtain ⟨p,hps,hp,hS⟩:=h
 refine ⟨p,hps,hp,?_⟩
 have h1:St w0 X w' ((dM gd m p++DR p.FL N)++T):=Sx.St.cq (N:=[]) (by rw [List.append_nil];exact hS) h'
 have e:(dM gd m p++DR p.FL N)++T=dM gd m p++DR p.FL (N++T):=by simp [DR,List.append_assoc]
 rw [←e];exact h1

theorem aj.qw (h:aj w0 X w gd ps m (N++T)) (h':St w (ij T) w' T'):aj w0 X w' gd ps m (N++T'):=by
 obtain ⟨p,hps,hp,hS⟩:=h
 have e:∀U,dM gd m p++DR p.FL (N++U)=(dM gd m p++DR p.FL N)++U:=fun U=>by simp [DR,List.append_assoc]
 rw [e] at hS
 refine ⟨p,hps,hp,?_⟩
 rw [e]
 exact Sx.St.cq hS h'

theorem aj.under (k:St w0 X w N) (h:aj w [] w' gd ps m []):aj w0 X w' gd ps m N:=by
 obtain ⟨p,hps,hp,hS⟩:=h
 have h1:=Sx.St.cq (M:=N) (N:=[]) (by rw [List.append_nil];exact k) hS
 refine ⟨p,hps,hp,h1.perm ?_⟩
 have e:dM gd m p++DR p.FL N=(dM gd m p++DR p.FL [])++N:=by simp [DR,List.append_assoc]
 rw [e]
 exact List.perm_append_comm
end

theorem dkT:Tryz.prog.underlying 51=some (.pointer 152):=Tryz.underlying51

end Go.Proofs.YtpmhjnhgpplmnaaGreatDoor
end

section
namespace Go.Proofs.YtpmhjnhgpplmnaaGreatDoor.Sx
open Go
set_option maxRecDepth 8000

section
variable {P:Program} {α:Type} {key val:α→Value} {es:Array MapEntry} {clock:Nat} {M:List α}

def A9 (es:Array MapEntry) (M:List α):List (MapEntry×α):=es.toList.zip M
def jy (es:Array MapEntry) (M:List α) (seen:Array Nat):List (MapEntry×α):=(A9 es M).filter fun p=> !seen.contains p.1.born
theorem Es (hE:bF key val es clock M):(A9 es M).map (·.1)=es.toList:=by
 rw [A9,List.map_fst_zip]
 have:=hE.len;simp;omega
theorem Dy (hE:bF key val es clock M):(A9 es M).map (·.2)=M:=by
 rw [A9,List.map_snd_zip]
 have:=hE.len;simp;omega
theorem Kp (hE:bF key val es clock M) {p:MapEntry×α} (hp:p∈A9 es M):p.1∈es.toList∧p.1.key=key p.2∧p.1.val=val p.2:=by
 obtain ⟨i,hi⟩:=List.getElem?_of_mem hp
 rw [A9,List.getElem?_zip_eq_some] at hi
 obtain ⟨r,h1,h2,h3⟩:=hE.at_ hi.1
 rw [hi.2,Option.some.injEq] at h1
 subst h1
 exact ⟨List.mem_of_getElem? hi.1,h2,h3⟩
theorem Aj (hE:bF key val es clock M) (seen:Array Nat):(jy es M seen).map (·.1)=(leftOf es seen).toList:=by
 rw [leftOf,Array.toList_filter,←Es hE,List.filter_map,jy]
 rfl
theorem rI (hE:bF key val es clock M) (seen:Array Nat):(leftOf es seen).size=(jy es M seen).length:=by
 rw [←Array.length_toList,←Aj hE,List.length_map]
theorem GZ (hE:bF key val es clock M):(jy es M #[]).map (·.2)=M:=by
 have:jy es M #[]=A9 es M:=List.filter_eq_self.2 fun p _=>by simp
 rw [this,Dy hE]

theorem E9 {β:Type} (bn:β→Nat) {L:List β} (hn:(L.map bn).Nodup) (seen:Array Nat) {p:β} (hp:p∈L.filter fun x=> !seen.contains (bn x)):
   (L.filter fun x=> !seen.contains (bn x)).Perm (p::L.filter fun x=> !(seen.push (bn p)).contains (bn x)):=by
 have key:∀(L:List β),(L.map bn).Nodup→p∈L→L.Perm (p::L.filter fun x=>bn x≠bn p):=by
   intro L
   induction L with
   | nil=>intro _ h;simp at h
   | cons x L ih=>
     intro hn hm
     rw [List.map_cons,List.nodup_cons] at hn
     rcases List.mem_cons.1 hm with rfl | hm
     · have hL:L.filter (fun x=>decide (bn x≠bn p))=L:=List.filter_eq_self.2 fun y hy=>by
         simp only [ne_eq,decide_eq_true_eq]
         exact fun h=>hn.1 (List.mem_map.2 ⟨y,hy,h⟩)
       rw [List.filter_cons,if_neg (by simp),hL]
     · have hx:bn x≠bn p:=fun h=>hn.1 (List.mem_map.2 ⟨p,hm,h.symm⟩)
       rw [List.filter_cons,if_pos (by simpa using hx)]
       exact ((ih hn.2 hm).cons x).trans (List.Perm.swap _ _ _)
 have hsub:((L.filter fun x=> !seen.contains (bn x)).map bn).Nodup:=hn.sublist ((List.filter_sublist).map _)
 refine (key _ hsub hp).trans (List.Perm.of_eq ?_)
 congr 1
 rw [List.filter_filter]
 apply List.filter_congr
 intro x _
 simp only [Array.contains_push,ne_eq]
 by_cases h2:bn x=bn p<;>cases h1:seen.contains (bn x)<;>simp [h1,h2]

def muR (gm gr:Nat) (w:World):Nat:=match w.heap[gm]?,w.heap[gr]? with
 | some (.map es _),some (.mapIter _ _ seen _)=>(leftOf es seen).size
 | _,_=>0
theorem Jg {gm gr:Nat} {w:World} {seen:Array Nat} {c0 c1:Nat} {o:Option Nat} (hg:w.heap[gm]?=some (.map es clock)) (hr:w.heap[gr]?=some (.mapIter o c0 seen c1)):muR gm gr w=(leftOf es seen).size:=by simp only [muR,hg,hr]

theorem FF {w:World} {gr gm:Nat} {seen:Array Nat} (hE:bF key val es clock M) (hr:w.heap[gr]?=some (.mapIter (some gm) clock seen clock)) (hg:w.heap[gm]?=some (.map es clock)):
   ((jy es M seen)=[]∧(Instr.next (.pointer (some ⟨gr,0,none⟩)) false 0).run P w=.ok (.tuple #[.bool false]) w)∨
   ∃(e:MapEntry) (r:α) (w1:World),(w1=w∨w1=w.drew)∧(Instr.next (.pointer (some ⟨gr,0,none⟩)) false 0).run P w=.ok (.tuple #[.bool true,key r,val r]) (w1.putObj gr (.mapIter (some gm) clock (seen.push e.born) clock))∧r∈M∧
     (∀w2:World,w2.heap[gr]?=some (.mapIter (some gm) clock (seen.push e.born) clock)→w2.heap[gm]?=some (.map es clock)→(Instr.entry (.pointer (some ⟨gr,0,none⟩))).run P w2=.ok (.tuple #[key r,val r]) w2)∧
     ((jy es M seen).map (·.2)).Perm (r::(jy es M (seen.push e.born)).map (·.2))∧(jy es M (seen.push e.born)).length<(jy es M seen).length:=by
 rcases run_next_at (P:=P) w 0 gr gm clock clock seen es clock hr hg hE.old (Nat.le_refl _) with ⟨hz,hrun⟩ | ⟨e,he,w3,hw3,hrun⟩
 · left
   refine ⟨?_,hrun⟩
   rw [rI hE] at hz
   exact List.eq_nil_of_length_eq_zero hz
 · right
   have hml:∃r,(e,r)∈jy es M seen:=by
     rw [←Aj hE,List.mem_map] at he
     obtain ⟨p,hp,rfl⟩:=he
     exact ⟨p.2,hp⟩
   obtain ⟨r,hr'⟩:=hml
   have hmem:=(List.mem_filter.1 hr').1
   obtain ⟨he1,hk,hv⟩:=Kp hE hmem
   have hborn:((A9 es M).map fun p=>p.1.born).Nodup:=by
     have:=hE.born
     rw [←Es hE,List.map_map] at this
     exact this
   have hstep:=E9 (fun p:MapEntry×α=>p.1.born) hborn seen hr'
   have hrM:r∈M:=by
     have:=(List.mem_map (f:=fun p:MapEntry×α=>p.2)).2 ⟨_,hmem,rfl⟩
     rw [Dy hE] at this
     exact this
   refine ⟨e,r,w3,hw3,?_,hrM,fun w2 h1 h2=>?_,hstep.map fun p:MapEntry×α=>p.2,?_⟩
   · simp only at hk hv
     rw [hk,hv] at hrun
     exact hrun
   · have:=run_entry_at (P:=P) w2 gr gm clock seen es clock e h1 h2 he1 hE.born
     simp only at hk hv
     rw [hk,hv] at this
     exact this
   · have:=hstep.length_eq
     simp only [List.length_cons] at this
     show (jy es M (seen.push e.born)).length<(jy es M seen).length
     unfold jy
     omega
end

end Go.Proofs.YtpmhjnhgpplmnaaGreatDoor.Sx
end

section
namespace Go.Proofs.YtpmhjnhgpplmnaaGreatDoor
open Go Sx
set_option maxRecDepth 8000

section
variable {w0 w w':World} {X:List Nat} {N N':List Res} {gd:Nat} {ps:List Nat} {m:ah}

theorem DOk.upd {p:DP} (hp:DOk m p) (s:Nat) (d:Bool) (a:Option Nat) (f:List Nat) {av:Int} {fa:Option Addr} {fn fc:Nat} {F:Res} (ha:∀k,a=some k→av=(k:Int)∧k≤9223372036854775807) (hf:E2 f fa fn fc F):
   DOk { m with steps:=s,down:=d,arm:=a,bN:=f } { p with av:=av,fa:=fa,fn:=fn,fc:=fc,F:=F } :=
 ⟨hp.wf.upd s d a f,hp.files,ha,hf,hp.oJ,hp.isn,hp.maps,hp.iss⟩

theorem C8 (x:Nat) (l:List Nat):niv (x::l)=.int .i64 (x:Int)::niv l:=rfl

set_option maxHeartbeats 1000000 in
theorem jU (h:aj w0 X w gd ps m N) (hb:m.steps<4611686018427387904):
   Calls Tryz.prog 178 #[.pointer (some ⟨gd,0,none⟩)] w fun e w'=>e=.returned (bG (bu m).2)∧aj w0 X w' gd ps (bu m).1 N:=by
 obtain ⟨p,hps,hp,hS⟩:=h
 apply qM
 refine ⟨fun x w'=>x=decide (m.arm=some 0)∧w'=w,⟨_,aj.cell hS (i:=2) (KI _) rfl,fun ha=>⟨_,aj.cell hS (i:=3) (jv _) rfl,?_,rfl⟩,fun ha=>⟨?_,rfl⟩⟩,?_⟩
 · obtain ⟨k,hk⟩:=Option.isSome_iff_exists.1 ha
   rw [(hp.arm k hk).1,hk]
   by_cases h0:k=0
   · subst h0;rfl
   · have:¬((k:Int)=0):=by omega
     simp [h0,this]
 · have:m.arm=none:=by simpa using ha
   rw [this];rfl
 rintro x w1 ⟨rfl,rfl⟩
 refine ⟨fun h0=>?_,fun h0=>?_⟩
 · have h0:m.arm=some 0:=by simpa using h0
   obtain ⟨w2,r2,h2⟩:=hS.stL (i:=0) (o:=1) (off:=1) (T:=4) (v:=.bool true) rfl (NN _) rfl (by simp [iU]) rfl
   refine ⟨w2,r2,?_,?_⟩
   · rw [bu,if_pos h0];rfl
   · rw [bu,if_pos h0]
     exact ⟨p,hps,hp.upd m.steps true m.arm m.bN hp.arm hp.bN,h2⟩
 have h0:¬m.arm=some 0:=by simpa using h0
 have w1s:IntKind.wrap .i64 ((m.steps:Int)+1)=((m.steps+1:Nat):Int):=by rw [wrap_i64 (by omega) (by omega)];omega
 obtain ⟨w3,r3,h3⟩:=hS.stL (i:=0) (o:=0) (off:=0) (T:=3) (v:=.int .i64 ((m.steps+1:Nat):Int)) rfl (Lo _) rfl (by simp [iU]) rfl
 obtain ⟨av',hav⟩:∃av',IntKind.wrap .i64 (p.av-1)=av':=⟨_,rfl⟩
 have ha':∀k:Nat,m.arm.map (fun x:Nat=>x-1)=some k→av'=(k:Int)∧k≤9223372036854775807:=by
   intro k hk
   obtain ⟨j,hj,rfl⟩:=Option.map_eq_some_iff.1 hk
   obtain ⟨e1,e2⟩:=hp.arm j hj
   have:j≠0:=fun e=>h0 (by rw [hj,e])
   rw [←hav,e1,wrap_i64 (by omega) (by omega)]
   omega
 have h3:St w0 X w3 (dM gd { m with steps:=m.steps+1 } p++DR p.FL N):=h3
 obtain ⟨w4,r4,h4⟩:=h3.stL (i:=0) (o:=3) (off:=3) (T:=3) (v:=.int .i64 av') rfl (Lo _) rfl (by simp [iU]) rfl
 have hsome:(m.arm.map (fun x:Nat=>x-1)).isSome=m.arm.isSome:=by cases m.arm<;>rfl
 have h4:St w0 X w4 (dM gd { m with steps:=m.steps+1,arm:=m.arm.map (fun x:Nat=>x-1) } { p with av:=av' } ++DR p.FL N):=by
   unfold dM iU
   simp only [hsome]
   exact h4
 have C4:=fun {i v T} (hT:(isAgg T).run Tryz.prog w4=.ok false w4) hv=>aj.cell h4 (i:=i) (v:=v) (T:=T) hT hv
 refine ⟨_,aj.cell hS (i:=0) (jv _) rfl,w3,by rw [w1s];exact r3,_,aj.cell h3 (i:=3) (jv _) rfl,w4,by show (Instr.storeAt _ _ (.int .i64 (IntKind.wrap .i64 (p.av-1)))).run _ _=_;rw [hav];exact r4,_,_,_,C4 (i:=4) (GP _) rfl,fun hz=>?_,fun hz=>?_⟩
 · have hfn:m.bN=[]:=List.eq_nil_of_length_eq_zero (by have:=hp.bN.len;simp at hz;omega)
   have e:bu m=({ m with steps:=m.steps+1,arm:=m.arm.map (fun x:Nat=>x-1) },none):=by rw [bu,if_neg h0,hfn]
   rw [e]
   exact ⟨rfl, { p with av:=av' },hps,hp.upd (m.steps+1) m.down _ m.bN ha' hp.bN,h4⟩
 · have hfn:p.fn≠0:=by simpa using hz
   obtain ⟨gf,k,L,hfa,hF,hL⟩:=hp.bN.at_.resolve_left hfn
   have hlen:=hp.bN.len
   have hle:=hp.bN.le
   obtain ⟨x,r,hxr⟩:∃x r,m.bN=x::r:=by
     cases hq:m.bN with
     | nil=>rw [hq] at hlen;simp at hlen;omega
     | cons x r=>exact ⟨x,r,rfl⟩
   have hx63:x≤9223372036854775807:=hp.bN.bd x (by rw [hxr];simp)
   rw [hxr,C8] at hL
   have hLk:L[k]?=some (.int .i64 (x:Int)):=by
     have:=congrArg (fun l=>l[0]?) hL
     simp only [List.getElem?_take,List.getElem?_drop,Nat.add_zero,List.getElem?_cons_zero] at this
     rwa [if_pos (by omega)] at this
   have hkl:k<L.length:=(List.getElem?_eq_some_iff.1 hLk).1
   have hLr:(L.drop (k+1)).take (p.fn-1)=niv r:=by
     have:=congrArg (List.drop 1) hL
     rw [List.drop_take,List.drop_drop] at this
     simpa using this
   have h4F:(dM gd { m with steps:=m.steps+1,arm:=m.arm.map (fun x:Nat=>x-1) } { p with av:=av' } ++DR p.FL N)[4]?=some (.arr gf 3 L):=by
     show some p.F=_
     rw [hF]
   have hld:(Instr.loadAt 3 (.pointer (some ⟨gf,k+Int.toNat (0:Int)*1,none⟩))).run Tryz.prog w4=.ok (.int .i64 (x:Int)) w4:=h4.ldL h4F (jv _) rfl hLk
   refine ⟨_,_,_,C4 (i:=4) (GP _) rfl,gf,k,hfa,by omega,by show (0:Int)<((p.fn:Nat):Int);omega,_,hld,fun hx0=>?_,fun hx0=>?_⟩
   · have hx0:x=0:=by simp at hx0;omega
     subst hx0
     refine ⟨_,_,_,C4 (i:=4) (GP _) rfl,by omega,by show (1:Int)≤((p.fn:Nat):Int);omega,by show ((p.fn:Nat):Int)≤((p.fc:Nat):Int);omega,fun a' hsub=>?_⟩
     obtain ⟨w5,r5,h5⟩:=h4.stL (i:=0) (o:=4) (off:=4) (T:=29) (v:=.slice a' (p.fn-1) (p.fc-1)) rfl (O8 _) rfl (by simp [iU]) rfl
     have e:bu m=({ m with steps:=m.steps+1,arm:=m.arm.map (fun x:Nat=>x-1),bN:=r },some 2):=by rw [bu,if_neg h0,hxr]
     rw [e]
     refine ⟨w5,r5,rfl, { p with av:=av',fa:=a',fn:=p.fn-1,fc:=p.fc-1 },hps,hp.upd (m.steps+1) m.down _ r ha' ⟨?_,by omega,?_,?_⟩,h5⟩
     · rw [hxr] at hlen;simp at hlen;omega
     · by_cases h1:p.fn-1=0
       · exact .inl h1
       · right
         refine ⟨gf,k+1,L,?_,hF,hLr⟩
         have hne:p.fc≠1:=by omega
         have h2:=hsub.2 hne
         show a'=_
         rw [h2]
         show p.fa.map _=_
         rw [hfa]
         simp [Addr.add]
     · exact fun y hy=>hp.bN.bd y (by rw [hxr];simp [hy])
   · obtain ⟨y,rfl⟩:∃y,x=y+1:=⟨x-1,by simp at hx0;omega⟩
     have wy:IntKind.wrap .i64 (((y+1:Nat):Int)-1)=(y:Int):=by rw [wrap_i64 (by omega) (by omega)];omega
     obtain ⟨w6,r6,h6⟩:=h4.stL (i:=4) (o:=k) (off:=k+Int.toNat (0:Int)*1) (T:=3) (v:=.int .i64 (y:Int)) h4F (Lo _) rfl hkl rfl
     have e:bu m=({ m with steps:=m.steps+1,arm:=m.arm.map (fun x:Nat=>x-1),bN:=y::r },none):=by rw [bu,if_neg h0,hxr]
     rw [e]
     refine ⟨_,_,_,C4 (i:=4) (GP _) rfl,gf,k,hfa,by omega,by show (0:Int)<((p.fn:Nat):Int);omega,_,hld,gf,k,hfa,by omega,by show (0:Int)<((p.fn:Nat):Int);omega,w6,by rw [wy];exact r6,rfl, { p with av:=av',F:=.arr gf 3 (L.set k (.int .i64 (y:Int))) },hps,hp.upd (m.steps+1) m.down _ (y::r) ha' ⟨?_,hle,?_,?_⟩,h6⟩
     · rw [hxr] at hlen;exact hlen
     · right
       refine ⟨gf,k,_,hfa,rfl,?_⟩
       rw [C8,←hLr]
       have e1:(L.set k (.int .i64 (y:Int))).drop k=.int .i64 (y:Int)::L.drop (k+1):=by
         rw [List.drop_eq_getElem_cons (by simpa using hkl),List.getElem_set_self,List.drop_set_of_lt (by omega)]
       rw [e1]
       obtain ⟨q,hq⟩:∃q,p.fn=q+1:=⟨p.fn-1,by omega⟩
       rw [hq,List.take_succ_cons]
       rfl
     · intro z hz
       rcases List.mem_cons.1 hz with rfl | hz
       · omega
       · exact hp.bN.bd z (by rw [hxr];simp [hz])

end

end Go.Proofs.YtpmhjnhgpplmnaaGreatDoor
end
