/- The proof of RepoNoneCardSaid, part 7: what it rests on (conditions: those that each theorem names). -/
import Derived.Test.YtpmhjnhgpplmnaaGreatDoorS6
import Derived.Test.YtpmhjnhgpplmnaaGreatDoorRows
section
namespace Go.Proofs.YtpmhjnhgpplmnaaGreatDoor
open Go Sx
set_option maxRecDepth 8000

theorem Hp {β:Type} (bn:β→Nat) {L:List β} (hn:(L.map bn).Nodup) (seen:Array Nat) {p:β} (hp:p∈L.filter fun x=> !seen.contains (bn x)):
   (L.filter fun x=> !seen.contains (bn x)).Perm (p::L.filter fun x=> !(seen.push (bn p)).contains (bn x)):=by
 have key:∀(L:List β),(L.map bn).Nodup→p∈L→L.Perm (p::L.filter fun x=>bn x≠bn p):=by
   intro L
   induction L with
   | nil=>intro _ h;simp at h
   | cons x L ih=>
     intro hn hm
     rw [List.map_cons,List.nodup_cons] at hn
     rcases List.mem_cons.1 hm with rfl | hm
     · have hL:L.filter (fun x=>decide (bn x≠bn p))=L:=List.filter_eq_self.2 fun y hy=>by
         simp only [ne_eq,decide_eq_true_eq]
         exact fun h=>hn.1 (List.mem_map.2 ⟨y,hy,h⟩)
       rw [List.filter_cons,if_neg (by simp),hL]
     · have hx:bn x≠bn p:=fun h=>hn.1 (List.mem_map.2 ⟨p,hm,h.symm⟩)
       rw [List.filter_cons,if_pos (by simpa using hx)]
       exact ((ih hn.2 hm).cons x).trans (List.Perm.swap _ _ _)
 have hsub:((L.filter fun x=> !seen.contains (bn x)).map bn).Nodup:=hn.sublist ((List.filter_sublist).map _)
 refine (key _ hsub hp).trans (List.Perm.of_eq ?_)
 congr 1
 rw [List.filter_filter]
 apply List.filter_congr
 intro x _
 simp only [Array.contains_push,ne_eq]
 by_cases h2:bn x=bn p<;>cases h1:seen.contains (bn x)<;>simp [h1,h2]

def oy (es:Array MapEntry) (M:Refs):List (MapEntry×bq):=es.toList.zip M
def sA (es:Array MapEntry) (M:Refs) (seen:Array Nat):List (MapEntry×bq):=(oy es M).filter fun p=> !seen.contains p.1.born

section
variable {es:Array MapEntry} {clock:Nat} {M:Refs}
theorem zip_fst (hE:bD kyV vlV es clock M):(oy es M).map (·.1)=es.toList:=by
 rw [oy,List.map_fst_zip]
 have:=hE.len;simp;omega
theorem wF (hE:bD kyV vlV es clock M):(oy es M).map (·.2)=M:=by
 rw [oy,List.map_snd_zip]
 have:=hE.len;simp;omega
theorem xP (hE:bD kyV vlV es clock M):((oy es M).map fun p=>p.1.born).Nodup:=by
 have:=hE.born
 rw [←zip_fst hE,List.map_map] at this
 exact this
theorem G5 (hE:bD kyV vlV es clock M) {p:MapEntry×bq} (hp:p∈oy es M):p.1∈es.toList∧p.1.key=kyV p.2∧p.1.val=vlV p.2:=by
 obtain ⟨i,hi⟩:=List.getElem?_of_mem hp
 rw [oy,List.getElem?_zip_eq_some] at hi
 obtain ⟨r,h1,h2,h3⟩:=hE.at_ hi.1
 rw [hi.2,Option.some.injEq] at h1
 subst h1
 exact ⟨List.mem_of_getElem? hi.1,h2,h3⟩
theorem zg (hE:bD kyV vlV es clock M) (seen:Array Nat):(sA es M seen).map (·.1)=(leftOf es seen).toList:=by
 rw [leftOf,Array.toList_filter,←zip_fst hE,List.filter_map,sA]
 rfl
theorem Ec (hE:bD kyV vlV es clock M) {seen:Array Nat} {e:MapEntry} (he:e∈(leftOf es seen).toList):∃r,(e,r)∈sA es M seen:=by
 rw [←zg hE,List.mem_map] at he
 obtain ⟨p,hp,rfl⟩:=he
 exact ⟨p.2,hp⟩
end

section
variable {w0 w:World} {X:List Nat} {N:List Res}

set_option maxHeartbeats 1000000 in
theorem IA (gi gm:Nat) (S:Refs) (h:gv w0 X w gi gm S N) (hb:S.length≤1000000):
   Calls Tryz.prog 121 #[.pointer (some ⟨gi,0,none⟩)] w fun e w'=>∃a n c,e=.returned (.slice a n c)∧gv w0 X w' gi gm S (.row 100 35 (.slice a n c) n (S.flatMap aC)::N):=by
 obtain ⟨es,clock,M,hE,hM,hS⟩:=h
 have hml:M.length≤1000000:=by have:=hM.perm.length_eq;omega
 apply qX
 have hg:w.heap[gm]?=some (.map es clock):=hS.holds 1 _ rfl
 have hit:St w0 X (w.alloc (.mapIter (some gm) clock #[] clock)) ((.arr gi 272 [.map (some gm)]:: .blk gm (.map es clock)::N)++ [.blk w.heap.size (.mapIter (some gm) clock #[] clock)]):=hS.add (Chg.alloc _ _) (heap_alloc_new w _) (by simp [Res.fp])
 have h1:St w0 X (w.alloc (.mapIter (some gm) clock #[] clock)) (.arr gi 272 [.map (some gm)]:: .blk gm (.map es clock):: .blk w.heap.size (.mapIter (some gm) clock #[] clock):: .row 100 35 (.slice none 0 0) 0 (([]:Refs).flatMap aC)::N):=by
   have:=(hit.b8 100 35).perm (N:=.arr gi 272 [.map (some gm)]:: .blk gm (.map es clock)::([.blk w.heap.size (.mapIter (some gm) clock #[] clock),.row 100 35 (.slice none 0 0) 0 []]++N)) (by
     rw [List.append_assoc]
     exact List.Perm.cons _ (List.Perm.cons _ List.perm_append_comm))
   exact this
 obtain ⟨gr,hgr⟩:∃gr,w.heap.size=gr:=⟨_,rfl⟩
 rw [hgr] at h1
 refine ⟨_,hS.ldL (i:=0) (l:=[.map (some gm)]) rfl (mpA _) rfl rfl,_,_,run_range_map w 270 87 100 gm es clock Kz hg,
   fun xa xn xc w'=>∃(seen:Array Nat) (out:Refs),xn=out.length∧(out++(sA es M seen).map (·.2)).Perm M∧St w0 X w' (.arr gi 272 [.map (some gm)]:: .blk gm (.map es clock):: .blk gr (.mapIter (some gm) clock seen clock):: .row 100 35 (.slice xa xn xc) xn (out.flatMap aC)::N),
   fun _ xn _ _=>M.length-xn,⟨#[],[],rfl,?_,h1⟩,?_⟩
 · have:sA es M #[]=oy es M:=List.filter_eq_self.2 fun p _=>by simp
   rw [this,wF hE,List.nil_append]
 rintro xa xn xc w2 ⟨seen,out,rfl,hperm,h2⟩
 rw [hgr]
 have hr2:w2.heap[gr]?=some (.mapIter (some gm) clock seen clock):=h2.holds 2 _ rfl
 have hg2:w2.heap[gm]?=some (.map es clock):=h2.holds 1 _ rfl
 rcases run_next_at (P:=Tryz.prog) w2 0 gr gm clock clock seen es clock hr2 hg2 hE.old (Nat.le_refl _) with ⟨hz,hrun⟩ | ⟨e,he,w3,hw3,hrun⟩
 · refine ⟨false,[],w2,hrun,fun h=>(by cases h),fun _=>?_⟩
   have hl0:sA es M seen=[]:=by
     have:=zg hE seen
     have h0:(leftOf es seen).toList=[]:=List.eq_nil_of_length_eq_zero (by simpa using hz)
     rw [h0] at this
     exact List.map_eq_nil_iff.1 this
   rw [hl0,List.map_nil,List.append_nil] at hperm
   have hol:out.length≤1000000:=by have:=hperm.length_eq;omega
   refine (I9 h2 (i:=3) (l:=out) rfl (by omega)).mono ?_
   rintro e w4 ⟨rfl,l',hp',hs',h4⟩
   have hlS:=hM.sorted (hp'.trans hperm) hs'
   subst hlS
   refine ⟨rfl,xa,_,xc,rfl,es,clock,M,hE,hM,h4.sub ?_⟩
   exact List.Sublist.cons_cons _ (List.Sublist.cons_cons _ (List.Sublist.cons _ (List.Sublist.refl _)))
 · refine ⟨true,[e.key,e.val],_,hrun,fun _=>?_,fun h=>(by cases h)⟩
   obtain ⟨r,hr⟩:=Ec hE he
   have hmem:=(List.mem_filter.1 hr).1
   obtain ⟨he1,hk,hv⟩:=G5 hE hmem
   have h3:St w0 X w3 (.arr gi 272 [.map (some gm)]:: .blk gm (.map es clock):: .blk gr (.mapIter (some gm) clock seen clock):: .row 100 35 (.slice xa out.length xc) out.length (out.flatMap aC)::N):=by
     rcases hw3 with rfl | rfl
     · exact h2
     · exact h2.drew
   have h3':=St.uV h3 (i:=2) (o':=.mapIter (some gm) clock (seen.push e.born) clock) rfl
   have h3':St w0 X (w3.putObj gr (.mapIter (some gm) clock (seen.push e.born) clock)) (.arr gi 272 [.map (some gm)]:: .blk gm (.map es clock):: .blk gr (.mapIter (some gm) clock (seen.push e.born) clock):: .row 100 35 (.slice xa out.length xc) out.length (out.flatMap aC)::N):=h3'
   have hent:=run_entry_at (P:=Tryz.prog) _ gr gm clock seen es clock e (h3'.holds 2 _ rfl) (h3'.holds 1 _ rfl) he1 hE.born
   have hv':e.val=.agg (aC r).toArray:=hv
   rw [hv'] at hent
   have hstep:=Hp (fun p:MapEntry×bq=>p.1.born) (xP hE) seen hr
   have hp2:(out++ [r]++(sA es M (seen.push e.born)).map (·.2)).Perm M:=by
     refine List.Perm.trans ?_ hperm
     rw [List.append_assoc]
     exact (List.Perm.append_left out (hstep.map fun p:MapEntry×bq=>p.2).symm)
   have hlt:out.length<M.length:=by have:=hp2.length_eq;simp at this;omega
   obtain ⟨g5,w5,r5,h5⟩:=h3'.az rfZ
   have e5:∀v,(.arr gi 272 [.map (some gm)]:: .blk gm (.map es clock):: .blk gr (.mapIter (some gm) clock (seen.push e.born) clock):: .row 100 35 (.slice xa out.length xc) out.length (out.flatMap aC)::N++ [Res.arr g5 100 v]:List Res)[N.length+4]?=some (.arr g5 100 v):=by
     intro v
     rw [List.getElem?_append_right (by simp)];simp
   obtain ⟨w6,r6,h6⟩:=h5.stA (i:=N.length+4) (v:=aC r) (e5 _) (rfS _) (aI _) (aI _) (dR r)
   have hset:(.arr gi 272 [.map (some gm)]:: .blk gm (.map es clock):: .blk gr (.mapIter (some gm) clock (seen.push e.born) clock):: .row 100 35 (.slice xa out.length xc) out.length (out.flatMap aC)::N++ [Res.arr g5 100 (aC ep)]:List Res).set (N.length+4) (.arr g5 100 (aC r))=.arr gi 272 [.map (some gm)]:: .blk gm (.map es clock):: .blk gr (.mapIter (some gm) clock (seen.push e.born) clock):: .row 100 35 (.slice xa out.length xc) out.length (out.flatMap aC)::N++ [Res.arr g5 100 (aC r)]:=by simp
   rw [hset] at h6
   obtain ⟨g7,w7,vb,vd,w8,r7,r8,h8,_⟩:=h6.tP (i:=3) (ty:=48) rfT rfl (aC r) (aI r) (by decide) (dR r) (by omega) (by simp only [maxLen];omega)
   refine ⟨_,_,_,hent,g5,w5,r5,w6,r6,_,h6.ldA (i:=N.length+4) (l:=aC r) (T':=100) (g:=g5) (e5 _) (rfA _) (rfS _) (aI r),_,_,_,_,r7,_,_,_,_,r8,⟨seen.push e.born,out++ [r],by simp,hp2,?_⟩,(by show M.length- (out.length+1)<M.length-out.length;omega)⟩
   have e9:(out++ [r]).flatMap aC=out.flatMap aC++aC r:=by simp
   rw [e9]
   exact h8.sub (List.Sublist.cons_cons _ (List.Sublist.cons_cons _ (List.Sublist.cons_cons _ (List.Sublist.cons_cons _ (List.sublist_append_left _ _)))))
end

end Go.Proofs.YtpmhjnhgpplmnaaGreatDoor
end

section
namespace Go.Proofs.YtpmhjnhgpplmnaaGreatDoor
open Go Sx
set_option maxRecDepth 8000

section
variable {w0 w w':World} {X:List Nat} {N N':List Res} {gi gm:Nat} {S S':Refs}

theorem gv.asc (h:gv w0 X w gi gm S N):Asc S:=by
 obtain ⟨es,ck,M,hE,hM,hS⟩:=h
 exact hM.asc
theorem gv.self (h:gv w0 X w gi gm S N):gv w [gi,gm] w gi gm S []:=by
 obtain ⟨es,ck,M,hE,hM,hS⟩:=h
 refine ⟨es,ck,M,hE,hM,?_⟩
 exact (hS.sub (N:=[.arr gi 272 [.map (some gm)],.blk gm (.map es ck)]) (List.Sublist.cons_cons _ (List.Sublist.cons_cons _ (List.nil_sublist _)))).self
theorem gv.NU (h:gv w0 X w gi gm S N) {a:Option Addr} {n c sz:Nat} {cs:List Value} (hr:Rd w a n c sz cs) (hne:∀v∈cs,∀m,v≠ .map m) (hc:Chg [gi,gm] w w'):Rd w' a n c sz cs:=by
 obtain ⟨es,ck,M,hE,hM,hS⟩:=h
 have h1:w.heap[gi]?=some (.cells #[.map (some gm)] 272 (0,0)):=hS.holds 0 _ rfl
 have h2:w.heap[gm]?=some (.map es ck):=hS.holds 1 _ rfl
 refine ⟨?_,hr.len,hr.le,hr.nil⟩
 rcases hr.cells with h0 | ⟨b,f,ha,hq⟩
 · exact .inl h0
 · refine .inr ⟨b,f,ha,fun j v hv=>?_⟩
   have h3:=hq j v hv
   have n1:b≠gi:=fun e=>by
     subst e
     rw [cell_of_row w b _ _ _ _ h1] at h3
     have:=Array.mem_of_getElem? h3
     simp at this
     exact hne v (List.mem_of_getElem? hv) _ this
   have n2:b≠gm:=fun e=>by
     subst e
     unfold World.cell? at h3
     simp [h2] at h3
   rw [←h3]
   exact World.cell?_of_block (hc.block b (World.block_lt_of_cell? w _ h3) (by simp [n1,n2]))
theorem Jt (l:List Int):∀v∈zv l,∀m,v≠ .map m:=fun v hv m=>by
 obtain ⟨x,_,rfl⟩:=List.mem_map.1 hv
 simp
theorem gv.NY (h:gv w0 X w gi gm S N) {a:Option Addr} {n c:Nat} {l:List Int} (hr:RdZ w a n c l) (hc:Chg [gi,gm] w w'):RdZ w' a n c l:=h.NU hr (Jt l) hc

theorem tU {α β:Type} :∀(l:List α) (m:List β) (j:Nat),(l.eraseIdx j).zip (m.eraseIdx j)=(l.zip m).eraseIdx j
 | [],m,j=>by simp
 | a::l,[],j=>by simp
 | a::l,b::m,0=>rfl
 | a::l,b::m,j+1=>by simp [tU l m j]

theorem Cl {α:Type} {L:List α} (h:L.Nodup) {i j:Nat} {x:α} (hi:L[i]?=some x) (hj:L[j]?=some x):i=j:=by
 obtain ⟨h1,e1⟩:=List.getElem?_eq_some_iff.1 hi
 obtain ⟨h2,e2⟩:=List.getElem?_eq_some_iff.1 hj
 have hp:=List.pairwise_iff_getElem.1 h
 rcases Nat.lt_trichotomy i j with hlt | rfl | hlt
 · exact absurd (e1.trans e2.symm) (hp i j h1 h2 hlt)
 · rfl
 · exact absurd (e2.trans e1.symm) (hp j i h2 h1 hlt)

theorem JZ {M:Refs} (h:M.Pairwise fun x y=>x.id≠y.id) {x y:bq} (hx:x∈M) (hy:y∈M) (he:x.id=y.id):x=y:=by
 induction M with
 | nil=>simp at hx
 | cons z M ih=>
   have a:=List.pairwise_cons.1 h
   rcases List.mem_cons.1 hx with e1 | h1<;>rcases List.mem_cons.1 hy with e2 | h2
   · rw [e1,e2]
   · rw [e1] at he;exact absurd he (a.1 y h2)
   · rw [e2] at he;exact absurd he.symm (a.1 x h1)
   · exact ih a.2 h1 h2

theorem CM {M:Refs} {j:Nat} {r:bq} (hj:M[j]?=some r):M=M.take j++r::M.drop (j+1)∧M.eraseIdx j=M.take j++M.drop (j+1):=by
 obtain ⟨hl,e⟩:=List.getElem?_eq_some_iff.1 hj
 refine ⟨?_,List.eraseIdx_eq_take_drop_succ ..⟩
 rw [←e,←List.drop_eq_getElem_cons hl,List.take_append_drop]

set_option maxHeartbeats 1000000 in
theorem Fk (a:Option Addr) (n c:Nat) (ps:List Int) (h:gv w0 X w gi gm S N) (hr:RdZ w a n c ps) (hb:n≤1000000):
   Calls Tryz.prog 131 #[.pointer (some ⟨gi,0,none⟩),.slice a n c] w fun e w'=>e=.returned (.tuple #[])∧gv w [gi,gm] w' gi gm (bu S ps) []:=by
 have h0:=h
 replace h:=h.self
 obtain ⟨es,clock,M,hE,hM,hS⟩:=h
 apply qh
 have hg:w.heap[gm]?=some (.map es clock):=hS.holds 1 _ rfl
 have hit:St w [gi,gm] (w.alloc (.mapIter (some gm) clock #[] clock)) [.arr gi 272 [.map (some gm)],.blk gm (.map es clock),.blk w.heap.size (.mapIter (some gm) clock #[] clock)]:=hS.add (Chg.alloc _ _) (heap_alloc_new w _) (by simp [Res.fp])
 obtain ⟨gr,hgr⟩:∃gr,w.heap.size=gr:=⟨_,rfl⟩
 let keep:bq→Bool:=fun r=> !ps.contains r.pack
 let I:World→Prop:=fun w'=>∃es M seen,bD kyV vlV es clock M∧(M.filter keep).Perm (S.filter keep)∧(M.Pairwise fun x y=>x.id≠y.id)∧(∀p∈oy es M,seen.contains p.1.born=true→keep p.2=true)∧
   St w [gi,gm] w' [.arr gi 272 [.map (some gm)],.blk gm (.map es clock),.blk gr (.mapIter (some gm) clock seen clock)]
 let μ:World→Nat:=fun w'=>match w'.heap[gm]?,w'.heap[gr]? with
   | some (.map es _),some (.mapIter _ _ seen _)=>(leftOf es seen).size
   | _,_=>0
 refine ⟨_,hS.ldL (i:=0) (l:=[.map (some gm)]) rfl (mpA _) rfl rfl,_,_,run_range_map w 270 87 100 gm es clock Kz hg,I,μ,⟨es,M, #[],hE,hM.perm.filter _,?_,by simp,by rw [hgr] at hit;exact hit⟩,?_⟩
 · have hnS:S.Pairwise fun x y=>x.id≠y.id:=hM.asc.imp fun h=>gy h
   exact hnS.perm hM.perm.symm fun h=>h.symm
 rw [hgr]
 clear hE hM hS hg hit
 rintro w2 ⟨es,M,seen,hE,hperm,hdist,hseen,h2⟩
 have hr2:w2.heap[gr]?=some (.mapIter (some gm) clock seen clock):=h2.holds 2 _ rfl
 have hg2:w2.heap[gm]?=some (.map es clock):=h2.holds 1 _ rfl
 have hmu:μ w2=(leftOf es seen).size:=by simp only [μ,hr2,hg2]
 rcases run_next_at (P:=Tryz.prog) w2 0 gr gm clock clock seen es clock hr2 hg2 hE.old (Nat.le_refl _) with ⟨hz,hrun⟩ | ⟨e,he,w3,hw3,hrun⟩
 · refine ⟨false,[],w2,hrun,fun h=>(by cases h),fun _=>⟨rfl,es,clock,M,hE,⟨?_,vP h0.asc ps⟩,h2.sub (List.Sublist.cons_cons _ (List.Sublist.cons_cons _ (List.nil_sublist _)))⟩⟩
   have hl0:sA es M seen=[]:=by
     have:=zg hE seen
     have h0:(leftOf es seen).toList=[]:=List.eq_nil_of_length_eq_zero (by simpa using hz)
     rw [h0] at this
     exact List.map_eq_nil_iff.1 this
   have hall:M.filter keep=M:=by
     refine List.filter_eq_self.2 fun r hr=>?_
     rw [←wF hE] at hr
     obtain ⟨p,hp,rfl⟩:=List.mem_map.1 hr
     refine hseen p hp ?_
     cases hq:seen.contains p.1.born with
     | true=>rfl
     | false=>
       have:p∈sA es M seen:=List.mem_filter.2 ⟨hp,by rw [hq];rfl⟩
       rw [hl0] at this
       simp at this
   rw [hall] at hperm
   exact hperm
 · refine ⟨true,[e.key,e.val],_,hrun,fun _=>?_,fun h=>(by cases h)⟩
   obtain ⟨r,hrr⟩:=Ec hE he
   have hmem:=(List.mem_filter.1 hrr).1
   obtain ⟨he1,hk,hv⟩:=G5 hE hmem
   have hrM:r∈M:=by
     have:=(List.mem_map (f:=fun p:MapEntry×bq=>p.2)).2 ⟨_,hmem,rfl⟩
     rw [wF hE] at this
     exact this
   have h3:St w [gi,gm] w3 [.arr gi 272 [.map (some gm)],.blk gm (.map es clock),.blk gr (.mapIter (some gm) clock seen clock)]:=by
     rcases hw3 with rfl | rfl
     · exact h2
     · exact h2.drew
   have h3':=St.uV h3 (i:=2) (o':=.mapIter (some gm) clock (seen.push e.born) clock) rfl
   have h3':St w [gi,gm] (w3.putObj gr (.mapIter (some gm) clock (seen.push e.born) clock)) [.arr gi 272 [.map (some gm)],.blk gm (.map es clock),.blk gr (.mapIter (some gm) clock (seen.push e.born) clock)]:=h3'
   have hent:=run_entry_at (P:=Tryz.prog) _ gr gm clock seen es clock e (h3'.holds 2 _ rfl) (h3'.holds 1 _ rfl) he1 hE.born
   have hk':e.key=.agg (bv r.id).toArray:=hk
   have hv':e.val=.agg (aC r).toArray:=hv
   rw [hk',hv'] at hent
   have hleft:=(HM hE.born he).length_eq
   simp only [List.length_cons,Array.length_toList] at hleft
   obtain ⟨g4,w5,r5,h5⟩:=h3'.az idZ
   obtain ⟨g5,w6,r6,h6⟩:=h5.az rfZ
   obtain ⟨w7,r7,h7⟩:=h6.stA (i:=3) (v:=bv r.id) rfl (zz _) (by simp) (by simp [r.idl]) (aG _)
   obtain ⟨w8,r8,h8⟩:=h7.stA (i:=4) (v:=aC r) rfl (rfS _) (aI _) (aI _) (dR r)
   have h8:St w [gi,gm] w8 [.arr gi 272 [.map (some gm)],.blk gm (.map es clock),.blk gr (.mapIter (some gm) clock (seen.push e.born) clock),.arr g4 87 (bv r.id),.arr g5 100 (aC r)]:=h8
   have hsub:∀ {A B C:Res} {L:List Res},[A,B,C].Sublist (A::B::C::L):=fun {A B C L} =>List.Sublist.cons_cons _ (List.Sublist.cons_cons _ (List.Sublist.cons_cons _ (List.nil_sublist _)))
   refine ⟨_,_,_,hent,g4,w5,r5,g5,w6,r6,w7,r7,w8,r8,_,(u6 h8 (i:=4) rfl).1,(kK a n c ps r.pack w8 (h0.NY hr h8.chg) (by omega)).mono ?_⟩
   rintro e9 w9 ⟨rfl,rfl⟩
   refine ⟨_,rfl,fun w'=>I w'∧μ w'<μ w2,⟨fun hin=>?_,fun hin=>?_⟩,fun _ h=>h⟩
   · have h8d:=h8.drew
     have hg8:w9.drew.heap[gm]?=some (.map es clock):=h8d.holds 1 _ rfl
     obtain ⟨es',rD,hD1,hD2⟩:=hE.delete (P:=Tryz.prog) (w:=w9.drew) (g:=gm) (MC M) Kz hg8 r.idl #[270,87] rfl 0
     have hfnd:∃j,dQ bq.id M r.id=some (j,r):=by
       cases hf:dQ bq.id M r.id with
       | none=>exact absurd rfl (kS hf r hrM)
       | some p=>
         obtain ⟨j,y⟩:=p
         obtain ⟨hj,hy⟩:=fm hf
         have:=JZ hdist (List.mem_of_getElem? hj) hrM hy
         subst this
         exact ⟨j,rfl⟩
     obtain ⟨j,hj⟩:=hfnd
     obtain ⟨hes',hE'⟩:=hD1 j r hj
     obtain ⟨hMj,_⟩:=fm hj
     obtain ⟨hsp,her⟩:=CM hMj
     have hnk:keep r=false:=by simp only [keep,hin];rfl
     have h10:=St.uV h8d (i:=1) (o':=.map es' clock) rfl
     have h10:St w [gi,gm] (w9.drew.putObj gm (.map es' clock)) [.arr gi 272 [.map (some gm)],.blk gm (.map es' clock),.blk gr (.mapIter (some gm) clock (seen.push e.born) clock),.arr g4 87 (bv r.id),.arr g5 100 (aC r)]:=h10
     have hjl:j<es.size:=by have:=hE.len;have:=(List.getElem?_eq_some_iff.1 hMj).1;omega
     have hle:es'.toList=es.toList.eraseIdx j:=by rw [hes'];simp [Array.eraseIdxIfInBounds,hjl]
     have hzip:oy es' (M.eraseIdx j)=(oy es M).eraseIdx j:=by rw [oy,hle,tU];rfl
     have hdist':=hdist
     rw [hsp] at hdist'
     have hp3:=List.pairwise_append.1 hdist'
     have hrn:r∉M.eraseIdx j:=by
       rw [her]
       intro hm
       rcases List.mem_append.1 hm with hm | hm
       · exact hp3.2.2 r hm r (by simp) rfl
       · exact (List.pairwise_cons.1 hp3.2.1).1 r hm rfl
     refine ⟨fun w'=>∃o L,St w [gi,gm] w' (.arr gi 272 [.map (some gm)]:: .blk gm o:: .blk gr (.mapIter (some gm) clock (seen.push e.born) clock):: .arr g4 87 (bv r.id)::L),⟨_,_,h8d⟩,.map (some gm),?_,(bv r.id).toArray,?_,_,_,rD,_,fun _ h=>h,⟨_,_,h10⟩,⟨es',M.eraseIdx j,seen.push e.born,hE',?_,?_,?_,h10.sub hsub⟩,?_⟩
     · rintro w' ⟨_,_,h'⟩
       exact h'.ldL (i:=0) (l:=[.map (some gm)]) rfl (mpA _) rfl rfl
     · rintro w' ⟨_,_,h'⟩
       exact h'.ldA (i:=3) (l:=bv r.id) rfl (DQ _) (zz _) (by simp [r.idl])
     · have:(M.eraseIdx j).filter keep=M.filter keep:=by
         rw [her]
         conv=>rhs;rw [hsp]
         rw [List.filter_append,List.filter_append,List.filter_cons,hnk]
         simp
       rw [this]
       exact hperm
     · exact hdist.sublist (List.eraseIdx_sublist _ _)
     · intro p hp hc
       have hp2:p.2∈M.eraseIdx j:=by
         have:=(List.mem_map (f:=fun p:MapEntry×bq=>p.2)).2 ⟨_,hp,rfl⟩
         rw [wF hE'] at this
         exact this
       rw [hzip] at hp
       have hp1:=(List.eraseIdx_sublist _ _).subset hp
       simp only [Array.contains_push,Bool.or_eq_true,beq_iff_eq] at hc
       have hb2:p.1.born≠e.born:=by
         intro hb2
         have hnd:=xP hE
         have:p=(e,r):=by
           obtain ⟨i1,h1⟩:=List.getElem?_of_mem hp1
           obtain ⟨i2,h2⟩:=List.getElem?_of_mem hmem
           have q1:((oy es M).map fun p=>p.1.born)[i1]?=some p.1.born:=by rw [List.getElem?_map,h1];rfl
           have q2:((oy es M).map fun p=>p.1.born)[i2]?=some e.born:=by rw [List.getElem?_map,h2];rfl
           rw [hb2] at q1
           have:i1=i2:=Cl hnd q1 q2
           subst this
           rw [h1] at h2
           exact Option.some.inj h2
         rw [this] at hp2
         exact hrn hp2
       rcases hc with hc | hc
       · first
           | exact absurd hc hb2
           | exact hseen p hp1 hc
       · first
           | exact hseen p hp1 hc
           | exact absurd hc hb2
     · have hgm':(w9.drew.putObj gm (.map es' clock)).heap[gm]?=some (.map es' clock):=h10.holds 1 _ rfl
       have hgr':(w9.drew.putObj gm (.map es' clock)).heap[gr]?=some (.mapIter (some gm) clock (seen.push e.born) clock):=h10.holds 2 _ rfl
       have e1:μ (w9.drew.putObj gm (.map es' clock))=(leftOf es' (seen.push e.born)).size:=by simp only [μ,hgm',hgr']
       rw [e1,hmu]
       have:(leftOf es' (seen.push e.born)).size≤(leftOf es (seen.push e.born)).size:=by
         rw [←Array.length_toList,←Array.length_toList,leftOf,leftOf,Array.toList_filter,Array.toList_filter,hle]
         exact ((List.eraseIdx_sublist es.toList j).filter _).length_le
       omega
   · have hk2:keep r=true:=by simp only [keep,hin];rfl
     refine ⟨⟨es,M,seen.push e.born,hE,hperm,hdist,fun p hp hc=>?_,h8.sub hsub⟩,?_⟩
     · by_cases hb2:p.1.born=e.born
       · have hnd:=xP hE
         have:p=(e,r):=by
           obtain ⟨i1,h1⟩:=List.getElem?_of_mem hp
           obtain ⟨i2,h2⟩:=List.getElem?_of_mem hmem
           have q1:((oy es M).map fun p=>p.1.born)[i1]?=some p.1.born:=by rw [List.getElem?_map,h1];rfl
           have q2:((oy es M).map fun p=>p.1.born)[i2]?=some e.born:=by rw [List.getElem?_map,h2];rfl
           rw [hb2] at q1
           have:i1=i2:=Cl hnd q1 q2
           subst this
           rw [h1] at h2
           exact Option.some.inj h2
         rw [this]
         exact hk2
       · simp only [Array.contains_push,Bool.or_eq_true,beq_iff_eq] at hc
         rcases hc with hc | hc
         · first
             | exact absurd hc hb2
             | exact hseen p hp hc
         · first
             | exact hseen p hp hc
             | exact absurd hc hb2
     · have hgm':w9.heap[gm]?=some (.map es clock):=h8.holds 1 _ rfl
       have hgr':w9.heap[gr]?=some (.mapIter (some gm) clock (seen.push e.born) clock):=h8.holds 2 _ rfl
       have e1:μ w9=(leftOf es (seen.push e.born)).size:=by simp only [μ,hgm',hgr']
       rw [e1,hmu]
       omega
end

end Go.Proofs.YtpmhjnhgpplmnaaGreatDoor
end

section
namespace Go.Proofs.YtpmhjnhgpplmnaaGreatDoor
open Go Sx
set_option maxRecDepth 8000

theorem Sx.St.stO {P:Program} {w0 w:World} {X:List Nat} {M:List Res} (h:St w0 X w M) {i g n o off:Nat} {l v:List Value} {T' T:TypeId} (hi:M[i]?=some (.arr g T' l)) (hS:(sizeOf T).run P w=.ok n w) (he:off=o) (hl:o+n≤l.length) (hv:v.length=n) (h1:∀u∈v,u.oneCell'=true):
   ∃w',(Instr.storeAt T (.pointer (some ⟨g,off,none⟩)) (.agg v.toArray)).run P w=.ok () w'∧St w0 X w' (M.set i (.arr g T' (l.take o++v++l.drop (o+n)))):=by
 subst he
 have hg:=h.holds i _ hi
 have hst:=run_storeCells_at P g off T' v 0 l.toArray w hg (by simp;omega) h1
 have hset:(l.toArray.toList.take (off+0)++v++l.toArray.toList.drop (off+0+v.length)).toArray=(l.take off++v++l.drop (off+n)).toArray:=by
   simp only [Nat.add_zero,hv]
 rw [hset] at hst
 refine ⟨_,?_,h.upd hi (w':=w.setRow g (l.take off++v++l.drop (off+n)).toArray) ⟨rfl,rfl,rfl,by simp,fun k _ hk=>setRow_other w g k _ (fun e=>hk (by simp [Res.fp,e]))⟩ (setRow_heap w g _ _ T' _ hg) (by simp [Res.fp])⟩
 simp [Instr.storeAt,Instr.sureAddr,storeVar,hS,Value.cells,hv,hst]

theorem vR {gd gi:Nat} {r:gZ} (hk:r.K.length=96) (sa:Option Addr) (sc:Nat) (pa:Option Addr) (pc:Nat) (c:bR) (sa':Option Addr) (sc':Nat) (pa':Option Addr) (pc':Nat) (S':Refs):
   (fK gd gi r sa sc pa pc).take 98++bV c sa' c.snaps.length sc' pa' c.aj.length pc'++(fK gd gi r sa sc pa pc).drop 107=fK gd gi { r with C:=c,S:=S' } sa' sc' pa' pc':=by
 have e1:(fK gd gi r sa sc pa pc).take 98=pV gd::pV gi::bv r.K:=by
   show pV gd::pV gi::((bv r.K++_).take 96)=_
   rw [List.take_append_of_le_length (by simp [hk]),List.take_of_length_le (by simp [hk])]
 have e2:(fK gd gi r sa sc pa pc).drop 107=[.slice none 0 0,.bool r.dead]:=by
   have:=uF (gd:=gd) (gi:=gi) hk sa sc pa pc
   rw [show 107=98+9 from rfl,←List.drop_drop,this]
   rfl
 rw [e1,e2]
 unfold fK
 simp

theorem yl {num:Int} (hn:cU num=true):∀ {xs:List Itm} {s:Nat},(∀x∈xs,x.1.length=32∧x.2.length≤16777216)→s+(xs.map dM).flatten.length≤1000000000→∀y∈aT num s xs,iN y=true∧y.len≤67000000
 | [],_,_,_,y,hy=>by simp [aT] at hy
 | x::r,s,hx,hb,y,hy=>by
   have hx0:=hx x (List.mem_cons_self ..)
   have hfl:x.2.length≤(dM x).length:=by rw [dM,kD];simp only [List.length_cons,List.length_append];omega
   have hgp:=dO.1 hn
   rw [List.map_cons,List.flatten_cons,List.length_append] at hb
   have hy:y=mkRef x.1 num (((s+(dM x).length:Nat):Int)- ((x.2.length:Nat):Int)) ((x.2.length:Nat):Int)∨y∈aT num (s+(dM x).length) r:=by simpa [aT] using hy
   rcases hy with rfl | hy
   · obtain ⟨_,e2,e3,e4⟩:=CB (id:=x.1) (p:=num) (q:=((s+(dM x).length:Nat):Int)- ((x.2.length:Nat):Int)) (n:=((x.2.length:Nat):Int)) hx0.1 ⟨by omega,by omega⟩ ⟨by omega,by omega⟩ ⟨by omega,by omega⟩
     refine ⟨?_,by rw [e4];omega⟩
     unfold iN
     rw [e2,e3,e4]
     simp only [Bool.and_eq_true,decide_eq_true_eq]
     omega
   · exact yl hn (fun z hz=>hx z (List.mem_cons_of_mem _ hz)) (by omega) y hy

theorem Ck (f:Value) (w:World):Calls Tryz.prog 133 #[.slice none 0 0,f] w fun e w'=>e=.returned (.slice none 0 0)∧w'=w:=by
 apply jG
 have key:Calls Tryz.prog 166 #[.slice none 0 0,f] w fun e w'=>e=.returned (.int .i64 (-1))∧w'=w:=by
   apply jP
   refine ⟨fun x w'=>x=0∧w'=w,fun _ _=>0,⟨rfl,rfl⟩,?_⟩
   rintro x w1 ⟨rfl,rfl⟩
   exact ⟨fun h=>by simp at h,fun _=>⟨rfl,rfl⟩⟩
 refine key.mono ?_
 rintro e w1 ⟨rfl,rfl⟩
 exact ⟨_,rfl,fun _=>⟨rfl,rfl⟩,fun h=>by simp at h⟩

end Go.Proofs.YtpmhjnhgpplmnaaGreatDoor
end

section
namespace Go.Proofs.YtpmhjnhgpplmnaaGreatDoor
open Go Sx Gf2
set_option maxRecDepth 8000

def C6:Nat→Nat→Nat→Nat
 | 0,_,_=>0
 | k+1,a,b=>(if b%2=1 then a else 0)^^^(2*C6 k a (b / 2))
theorem Eb:∀(k a b:Nat),b<2^k→C6 k a b=Gf2.aD a b
 | 0, a, b, h => by obtain rfl : b = 0 := by omega
                    simp [C6]
 | k+1,a,b,h=>by rw [bO,C6,Eb k a (b / 2) (by rw [Nat.pow_succ] at h;omega)]
def Mp:Bool:=(List.range 32).all fun b=>b<2||(List.range 256).all fun a=>C6 5 a b != 283
theorem E1:Mp=true:=by kernel_rfl
theorem M7:Irr 283:=by
 have hno:∀a b,2≤b→b<32→a<256→Gf2.aD a b≠283:=fun a b h2 h32 ha h=>by
   have h1:=E1
   unfold Mp at h1
   rw [List.all_eq_true] at h1
   have h3:=h1 b (List.mem_range.2 h32)
   have hb:decide (b<2)=false:=by simp;omega
   rw [hb,Bool.false_or,List.all_eq_true] at h3
   have h4:=h3 a (List.mem_range.2 ha)
   rw [Eb 5 a b h32,h] at h4
   simp at h4
 refine ⟨by decide,fun a b h=>?_⟩
 have ha0:a≠0:=by rintro rfl;simp at h
 have hb0:b≠0:=by rintro rfl;simp at h
 have da:=Gf2.aF ha0
 have db:=Gf2.aF hb0
 have d2:=aR.aD da _ b db
 rw [←h] at d2
 have d3:Gf2.aR 283 8:=⟨by decide,by decide⟩
 have hs:=d2.uniq d3
 by_cases h1:a=1
 · exact .inl h1
 by_cases h2:b=1
 · exact .inr h2
 exfalso
 have p1:a<256:=Nat.lt_of_not_le fun hl=>by
   have:8≤a.log2:=(Nat.le_log2 ha0).2 (by simpa using hl)
   have hb1:b.log2=0:=by omega
   have:=db.2
   rw [hb1] at this
   omega
 have p2:b<256:=Nat.lt_of_not_le fun hl=>by
   have:8≤b.log2:=(Nat.le_log2 hb0).2 (by simpa using hl)
   have ha1:a.log2=0:=by omega
   have:=da.2
   rw [ha1] at this
   omega
 by_cases hb4:b<32
 · exact hno a b (by omega) hb4 p1 h.symm
 · have hb5:5≤b.log2:=(Nat.le_log2 hb0).2 (by simpa using hb4)
   have ha4:a<32:=Nat.lt_of_not_le fun hl=>by
     have:5≤a.log2:=(Nat.le_log2 ha0).2 (by simpa using hl)
     omega
   exact hno b a (by omega) ha4 p2 (by rw [Gf2.eB];exact h.symm)
def gI:gJ:=⟨283,1,1,4,8⟩
theorem Gh:bz gI=true:=by
 have h1:jJ 283=8:=iJ (d:=8) ⟨by decide,by decide⟩
 have h2:wk 283=true:=(uj 283).2 M7
 simp [bz,gd1,gd2,gd3,gd4,gI,h1,h2]
def q1 (s:Int):af:=⟨s,[⟨[],0⟩],[⟨[116],0⟩],[],[⟨some 0,[],[116]⟩],1,false,none,[]⟩
def q2 (s:Int) (b:List UInt8):af:=⟨s,[⟨b,0⟩],[⟨[116],0⟩],[],[⟨some 0,[],[116]⟩],2,false,none,[]⟩
def q3 (s:Int) (b:List UInt8):af:=⟨s,[⟨b,b.length⟩],[⟨[116],0⟩],[],[⟨some 0,[],[116]⟩],3,false,none,[]⟩
def q4 (s:Int) (b:List UInt8):af:=⟨s,[⟨b,b.length⟩],[⟨[116],0⟩],[⟨[116],0⟩],[],4,false,none,[]⟩
def q5 (s:Int) (b:List UInt8):af:=⟨s,[⟨b,b.length⟩],[⟨[99,49],0⟩],[⟨[116],0⟩],[⟨none,[116],[99,49]⟩],5,false,none,[]⟩
def q6 (s:Int) (b:List UInt8):af:=⟨s,[⟨b,b.length⟩],[⟨[99,49],0⟩],[⟨[99,49],0⟩],[],6,false,none,[]⟩
end Go.Proofs.YtpmhjnhgpplmnaaGreatDoor
end

section
namespace Go.Proofs.YtpmhjnhgpplmnaaGreatDoor
open Go Sx
set_option maxRecDepth 8000

theorem OX (w:World):(Instr.build 287 #[]).run Tryz.prog w=.ok (.agg (bv (List.replicate 12 0)).toArray) w:=by
 have:=dx (P:=Tryz.prog) (w:=w) (T:=287) (Nn w) Tryz.underlying287 (sB1 w) [] (by simp) (by simp)
 simpa using this

theorem ID (K:List UInt8) (k:UInt8) (a2:Option Addr) (n2 c2:Nat) (ctx:List UInt8) (a3:Option Addr) (n3 c3:Nat) (nonce:List UInt8) (a4:Option Addr) (n4 c4:Nat) (body:List UInt8) (w:World) (hk:K.length=96) (hr2:RdB w a2 n2 c2 ctx) (hr3:RdB w a3 n3 c3 nonce) (hr4:RdB w a4 n4 c4 body) (hb:n2+n3+n4≤67108000):
   Calls Tryz.prog 202 #[.agg (bv K).toArray,.int .u8 (k.toNat:Int),.slice a2 n2 c2,.slice a3 n3 c3,.slice a4 n4 c4] w fun e w'=>e=.returned (.agg (bv (nK K k ctx nonce body)).toArray)∧Chg [] w w':=by
 have e2:=hr2.bh
 have e3:=hr3.bh
 have e4:=hr4.bh
 apply qy
 obtain ⟨g1,w1,r1,h1⟩:=(St.start w).b7 41 (bv K)
 obtain ⟨g2,w2,r2,h2⟩:=h1.az dP
 have h2d:=h2.drew
 obtain ⟨g3,w3,r3,c3',q3⟩:=JA k w2.drew
 have h3:=h2d.same c3'
 obtain ⟨g4,w4,r4,c4',q4,_⟩:=vl bbT [.slice (some ⟨g3,0,none⟩) 1 1,.slice a2 n2 c2,.slice a3 n3 c3,.slice a4 n4 c4] (by simp [Value.oneCell']) (by simp) w3
 have h4:=h3.same c4'
 have hrow:eL w4 [.slice (some ⟨g3,0,none⟩) 1 1,.slice a2 n2 c2,.slice a3 n3 c3,.slice a4 n4 c4] [[k],ctx,nonce,body]:=
   (kN (h4.rd1 hr2) (h4.rd1 hr3) (h4.rd1 hr4)).cons (q3.an c4')
 refine ⟨g1,w1,r1,g2,w2,r2,by omega,by omega,_,_,_,_,r3,_,_,_,_,r4,(yM _ 4 4 _ [[k],ctx,nonce,body] w4 q4 hrow (by simp;omega) (by simp)).mono ?_⟩
 rintro e w5 ⟨a5,n5,c5,rfl,hf5⟩
 have h5:=h4.same hf5.1
 obtain ⟨g6,w6,r6,c6',q6,_⟩:=vl bbT [.slice a5 n5 c5] (by simp [Value.oneCell']) (by simp) w5
 have h6:=h5.same c6'
 have hpl:(bN [[k],ctx,nonce,body]).length≤67109864:=by
   have:=jd [[k],ctx,nonce,body] (by simp;omega)
   simp at this ⊢
   omega
 refine ⟨_,_,_,rfl,_,_,_,_,r6,(pT _ 32 32 (G4 K) _ 1 1 _ [bN [[k],ctx,nonce,body]] w6 (s6 h6 (i:=0) rfl hk).1 (by omega) q6 (dU (hf5.rdB.an c6')) (by rw [List.flatten_cons,List.flatten_nil,List.append_nil];omega) (by decide)).mono ?_⟩
 rintro e w7 ⟨rfl,c7⟩
 have e1: [bN [[k],ctx,nonce,body]].flatten=bN [[k],ctx,nonce,body]:=by rw [List.flatten_cons,List.flatten_nil,List.append_nil]
 rw [e1]
 obtain ⟨w8,r8,h8⟩:=(h6.same c7).stA (i:=1) (v:=bv (nK K k ctx nonce body)) rfl (cz _) (by simp) (by simp) (aG _)
 exact ⟨_,rfl,w8,r8,_,h8.bF (i:=1) (l:=bv (nK K k ctx nonce body)) rfl (jv _) (cz _) (by simp),rfl,h8.chg⟩

theorem aS.blk {w w':World} {a:Option Addr} {n c:Nat} {l:List UInt8} (h:aS w w' a n c l):∀ad,a=some ad→w.heap.size≤ad.block:=by
 intro ad e
 subst e
 rcases h.2.2.2 with ⟨hv,_⟩ | ⟨g,cap,cur,hv,hb,_⟩
 · simp at hv
 · simp only [Value.slice.injEq,Option.some.injEq] at hv
   rw [hv.1]
   exact hb

theorem Dc (K:List UInt8) (k:UInt8) (a2:Option Addr) (n2 c2:Nat) (ctx:List UInt8) (a3:Option Addr) (n3 c3:Nat) (b:List UInt8) (w:World)
   (hk:K.length=96) (hr2:RdB w a2 n2 c2 ctx) (hr3:RdB w a3 n3 c3 b) (hb:n2+n3≤67100000):
   Calls Tryz.prog 151 #[.agg (bv K).toArray,.int .u8 (k.toNat:Int),.slice a2 n2 c2,.slice a3 n3 c3] w fun e w'=>∃a n c,e=.returned (.tuple #[.slice a n c,.int .i64 ((jD K k ctx b).getD 0)])∧Chg [] w w'∧RdB w' a n c ((dJ K k ctx b).getD [])∧∀ad,a=some ad→w.heap.size≤ad.block:=by
 have e2:=hr2.bh
 have e3:=hr3.bh
 have hle:=hr3.le
 apply pF
 obtain ⟨g1,w1,r1,h1⟩:=(St.start w).b7 41 (bv K)
 have bad:∀w',Chg [] w w'→dJ K k ctx b=none→∃a n c,Ending.returned (.tuple #[.slice none 0 0,.int .i64 10])=.returned (.tuple #[.slice a n c,.int .i64 ((jD K k ctx b).getD 0)])∧Chg [] w w'∧RdB w' a n c ((dJ K k ctx b).getD [])∧∀ad,a=some ad→w.heap.size≤ad.block:=fun w' hc hn=>by
   refine ⟨none,0,0,?_,hc,?_,by simp⟩
   · rw [jD,hn];rfl
   · rw [hn];exact EF w'
 have hw:IntKind.wrap .i64 ((n3:Int)-45)=(n3:Int)-45:=wrap_i64 (by omega) (by omega)
 have hw2:IntKind.wrap .i64 (13+((n3:Int)-45))=(n3:Int)-32:=by rw [wrap_i64 (by omega) (by omega)];omega
 rw [hw,hw2]
 refine ⟨g1,w1,r1,fun x w'=>x=decide (b.length<45∨b.getD 0 0≠k)∧w'=w1,⟨fun h=>?_,fun h=>?_⟩,?_⟩
 · have:b.length<45:=by simp at h;omega
   exact ⟨by simp [this],rfl⟩
 · have h45:¬b.length<45:=by simp at h;omega
   refine ixB (bA _) (h1.rd1 hr3).cells e3 (by omega) (by omega) fun bl o hbo=>⟨?_,rfl⟩
   have:(0:Int).toNat=0:=rfl
   rw [this]
   by_cases hx:b.getD 0 0=k
   · rw [hx];simp [h45]
   · have hx2:((b.getD 0 0).toNat:Int)≠(k.toNat:Int):=fun e=>hx (by apply UInt8.toNat_inj.1;omega)
     rw [bne_iff_ne.2 hx2]
     exact (decide_eq_true (.inr hx)).symm
 rintro x w2 ⟨rfl,rfl⟩
 refine ⟨fun h=>bad _ h1.chg ?_,fun h=>?_⟩
 · have h':b.length<45∨b.getD 0 0≠k:=by simpa using h
   rw [dJ,if_pos h']
 have h':¬(b.length<45∨b.getD 0 0≠k):=by simpa using h
 have hof:dJ K k ctx b=if nK K k ctx (cr b) (bBody b)=qo b then some (gH K (cr b) (bBody b)) else none:=by rw [dJ,if_neg h']
 have h45:45≤b.length:=by
   rcases Nat.lt_or_ge b.length 45 with h | h
   · exact absurd (.inl h) h'
   · exact h
 clear h h'
 have hnl:(cr b).length=12:=by simp [cr];omega
 obtain ⟨g3,w3,r3,h3⟩:=h1.az Nn
 obtain ⟨w4,r4,h4⟩:=h3.stA (i:=1) (v:=bv (cB (cr b) (List.replicate 12 0) 0)) rfl (My _) (by simp) (by rw [dN];simp) (aG _)
 rw [dN] at r4
 refine ⟨_,OX _,g3,w3,r3,w4,r4,fun x w'=>∃i:Nat,x=(i:Int)∧i≤12∧St w [] w' [.arr g1 41 (bv K),.arr g3 287 (bv (cB (cr b) (List.replicate 12 0) i))],fun x _=>12-x.toNat,⟨0,rfl,by omega,h4⟩,?_⟩
 rintro x w5 ⟨i,rfl,hi,h5⟩
 refine ⟨fun h=>?_,fun h=>?_⟩
 · have hi':i<12:=by simp at h;omega
   have hwi:IntKind.wrap .i64 (1+(i:Int))=((1+i:Nat):Int):=by rw [wrap_i64 (by omega) (by omega)];omega
   rw [hwi]
   refine ix0 (h5.rd1 hr3).cells e3 (1+i) (by omega) fun bl o ha q=>⟨bl,o,ha,by omega,by omega,_,q w5 (h5.rd1 hr3).cells,by omega,by omega,?_⟩
   have hbi:(cr b)[i]?=some (b.getD (1+i) 0):=by
     rw [cr,List.getElem?_take,if_pos hi',List.getElem?_drop,List.getD,List.getElem?_eq_getElem (by omega)]
     rfl
   have hml:(cB (cr b) (List.replicate 12 (0:UInt8)) i).length=12:=by simp [cB];omega
   obtain ⟨w6,r6,h6⟩:=h5.stB (i:=1) (o:=i) (T:=5) (b:=b.getD (1+i) 0) rfl (sB1 _) (show 0+Int.toNat (i:Int)*1=i by omega) (by omega)
   rw [iE (by rw [hnl,List.length_replicate]) hbi] at h6
   exact ⟨w6,r6,⟨i+1,aq hi' (by omega),by omega,h6⟩,aB hi' (by omega)⟩
 have hi':i=12:=by simp at h;omega
 have f1:cB (cr b) (List.replicate 12 (0:UInt8)) i=cr b:=by
   have:=iH (x:=cr b) (l:=List.replicate 12 (0:UInt8)) (by rw [hnl,List.length_replicate])
   rw [List.length_replicate] at this;rw [hi',this]
 rw [f1] at h5
 clear f1 hi' h hi h4 h3 r4
 refine ⟨by omega,by omega,by omega,fun t44 hs44=>?_⟩
 have hn3:(Int.toNat ((n3:Int)-32))=n3-32:=by omega
 rw [hn3]
 have hz:=Chg.drew [] w5
 have q3:=h5.rd1 hr3
 have qb:RdB w5 t44 (n3-32-13) (c3-13) (bBody b):=by
   have:=q3.sub hs44 (hh:=n3-32) (by omega) (by omega) (by omega) (Nat.le_refl _)
   have e1:((bv b).drop (13*1)).take ((n3-32-13)*1)=bv (bBody b):=by rw [bBody,fV,dc,e3];congr 1;omega
   rw [e1] at this
   exact this
 have ld:∀w',Chg [] w5 w'→(Instr.loadAt 41 (.pointer (some ⟨g1,0,none⟩))).run Tryz.prog w'=.ok (.agg (bv K).toArray) w':=fun w' hc=>(h5.same hc).ldA (i:=0) (l:=bv K) rfl (kyA _) (kyS _) (by simp [hk])
 have qn:∀w',Chg [] w5 w'→RdB w' (some ⟨g3,0,none⟩) 12 12 (cr b):=fun w' hc=>(h5.same hc).rdA (i:=1) rfl (by simp [hnl])
 obtain ⟨tg,htg⟩:∃t,nK K k ctx (cr b) (bBody b)=t:=⟨_,rfl⟩
 have htl:tg.length=32:=by rw [←htg];simp
 rw [htg] at hof
 have Pt:∀w',Chg [] w5 w'→Calls Tryz.prog 202 #[.agg (bv K).toArray,.int .u8 (k.toNat:Int),.slice a2 n2 c2,.slice (some ⟨g3,0,none⟩) 12 12,.slice t44 (n3-32-13) (c3-13)] w' fun e w''=>e=.returned (.agg (bv tg).toArray)∧Chg [] w' w'':=fun w' hc=>by
   have:=ID K k a2 n2 c2 ctx _ 12 12 (cr b) t44 (n3-32-13) (c3-13) (bBody b) w' hk ((h5.same hc).rd1 hr2) (qn _ hc) (qb.an hc) (by omega)
   rw [htg] at this
   exact this
 have hx0:=fun w' (hc:Chg [] w5 w')=>Hy (C9 K) (cr b) 0 t44 (n3-32-13) (c3-13) (bBody b) w' (by simp [C9,hk]) hnl (by omega) (by omega) (qb.an hc) (by omega)
 have hld:∀w',Chg [] w5 w'→(Instr.loadAt 39 (.pointer (some ⟨g1,0,none⟩))).run Tryz.prog w'=.ok (.agg (bv (C9 K)).toArray) w':=fun w' hc=>by
   have:=(h5.same hc).G1 (T:=39) (i:=0) (l:=bv K) rfl (jv _) (cz _) (by simp [hk])
   rw [←fV] at this
   exact this
 refine ⟨fun w'=>Chg [] w5 w',hz,by omega,by omega,_,ld,?o1,?o2⟩
 case' o1=>
   refine (Pt _ hz).mono ?_
   rintro e w7 ⟨rfl,c7⟩
   have d7:=hz.trans c7
   obtain ⟨g14,w8,r8,h8⟩:=((St.start w5).same d7).az dP
   obtain ⟨w9,r9,h9⟩:=h8.stA (i:=0) (v:=bv tg) rfl (cz _) (by simp) (by simp [htl]) (aG _)
   refine ⟨_,rfl,fun w'=>Chg [] w5 w',fun _ h=>h,d7,g14,w8,r8,fun w'=>Chg [] w5 w',fun _ h=>h,h8.chg,w9,r9,?_⟩
 case' o2=>
   obtain ⟨g14,w8,r8,h8⟩:=((St.start w5).same hz).az dP
   refine ⟨g14,w8,r8,fun w'=>Chg [] w5 w',fun _ h=>h,h8.chg,(Pt _ h8.chg).mono ?_⟩
   rintro e w7 ⟨rfl,c7⟩
   obtain ⟨w9,r9,h9⟩:=(h8.same c7).stA (i:=0) (v:=bv tg) rfl (cz _) (by simp) (by simp [htl]) (aG _)
   refine ⟨_,rfl,fun w'=>Chg [] w5 w',fun _ h=>h,(h8.same c7).chg,w9,r9,?_⟩
 all_goals
   have dd:=h9.chg.trans (Chg.drew [] w9)
   refine ⟨fun w'=>Chg [] w9.drew w',Chg.refl _ _,by omega,by omega,by omega,by omega,by omega,fun t56 hs56=>?_⟩
   have qt:RdB w9.drew t56 (n3- (n3-32)) (c3- (n3-32)) (qo b):=by
     have:=(q3.an dd).sub hs56 (hh:=n3) (by omega) (Nat.le_refl _) (by omega) (Nat.le_refl _)
     have e1:((bv b).drop ((n3-32)*1)).take ((n3- (n3-32))*1)=bv (qo b):=by
       rw [qo,dc,e3,List.take_of_length_le (by simp;omega)];congr 1;omega
     rw [e1] at this
     exact this
   refine ⟨_,fun w' h=>toStr bS bE sS ((h9.drew.same h).rdA (i:=0) (l:=bv tg) (n:=32) rfl (by simp [htl])).cells htl,_,fun w' h=>toStr bS bE sS (qt.an h).cells qt.bh,fun h=>?_,fun h=>?_⟩
   · have:¬tg=qo b:=by simpa using h
     exact bad _ (h5.chg.trans dd) (by rw [hof,if_neg this])
   · have ht:tg=qo b:=by simpa using h
     rw [if_pos ht] at hof
     refine ⟨_,hld _ dd,_,(h5.same dd).ldA (i:=1) (l:=bv (cr b)) rfl (N6 _) (My _) (by simp [hnl]),(hx0 _ dd).mono ?_⟩
     rintro e w10 ⟨a,n,c,rfl,hf⟩
     refine ⟨_,_,_,_,rfl,a,n,c,?_,h5.chg.trans (dd.trans hf.1),?_,fun ad e=>?_⟩
     · rw [jD,hof];rfl
     · rw [hof];exact hf.rdB
     · have:=hf.blk ad e
       have:=(h5.chg.trans dd).size
       omega

end Go.Proofs.YtpmhjnhgpplmnaaGreatDoor
end

section
namespace Go.Proofs.YtpmhjnhgpplmnaaGreatDoor
open Go Sx
set_option maxRecDepth 8000

theorem GA {next:Int} :∀ {l:List PkD} {last:Int},oo next last l=true→∀p∈l,last<p.num∧p.num<next∧0≤p.size∧0≤p.count
 | [],_,_,p,hp=>by cases hp
 | q::l,last,h,p,hp=>by
   simp only [oo,Bool.and_eq_true,decide_eq_true_eq] at h
   rcases List.mem_cons.1 hp with rfl | hp
   · exact ⟨h.1.1,h.1.2.1,h.1.2.2.1,h.1.2.2.2⟩
   · have:=GA h.2 p hp
     exact ⟨by omega,this.2⟩
structure OU (C:bR):Prop where
 poly:C.set.poly<18446744073709551616
 snaps:∀s∈C.snaps,s.size≤9223372036854775807
 aj:∀p∈C.aj,p.size≤9223372036854775807∧p.count≤9223372036854775807
theorem kH {C:bR} (h:aH C=true) (hi:OU C):gE C:=by
 simp only [aH,jL,Bool.and_eq_true,decide_eq_true_eq,List.all_eq_true] at h
 obtain ⟨⟨⟨g1,g2,n1,n2⟩,hs,l1,l2⟩,hsn,_,hpk⟩:=h
 refine ⟨⟨by omega,by omega⟩,⟨by omega,by omega⟩,hi.poly,Ld hs,l1,l2,fun s hm=>?_,fun p hm=>?_⟩
 · have h1:=BO.1 (hsn s hm)
   have h2:=hi.snaps s hm
   exact ⟨FM h1.1,⟨by omega,by omega⟩,⟨h1.2.2.1,h2⟩,⟨h1.2.2.2.1,by omega⟩⟩
 · have h1:=GA hpk p hm
   have h2:=hi.aj p hm
   exact ⟨⟨by omega,by omega⟩,⟨h1.2.2.1,h2.1⟩,⟨h1.2.2.2,h2.2⟩⟩

end Go.Proofs.YtpmhjnhgpplmnaaGreatDoor
end

section
namespace Go.Proofs.YtpmhjnhgpplmnaaGreatDoor
open Go Sx
set_option maxRecDepth 8000

noncomputable def eR (r:gZ) (m:af) (ls:List (List UInt8)) (snaps:List dY) (drop:List Int):(af×Option Int)×gZ:=match kO r m with
 | some e=>((m,some e),r)
 | none=>match jK r.C snaps drop (decide (0<(aQ r.K r.S drop ls).length)) with
   | some e=>((m,some e),r)
   | none=>match (aX r.K (cE r.C snaps drop (decide (0<(aQ r.K r.S drop ls).length))) (bB drop r.C.aj) r.C.next (aQ r.K r.S drop ls) m).1.2 with
     | some e=>(((eM r (aX r.K (cE r.C snaps drop (decide (0<(aQ r.K r.S drop ls).length))) (bB drop r.C.aj) r.C.next (aQ r.K r.S drop ls) m).1.1 e (decide (0<(aQ r.K r.S drop ls).length))).1,some e),
         (eM r (aX r.K (cE r.C snaps drop (decide (0<(aQ r.K r.S drop ls).length))) (bB drop r.C.aj) r.C.next (aQ r.K r.S drop ls) m).1.1 e (decide (0<(aQ r.K r.S drop ls).length))).2)
     | none=>((dX (aV 99 r.C.gen::(cu drop r.C.aj).map fun p=>ay p.num) (aX r.K (cE r.C snaps drop (decide (0<(aQ r.K r.S drop ls).length))) (bB drop r.C.aj) r.C.next (aQ r.K r.S drop ls) m).1.1,none),
         { r with C:=(aX r.K (cE r.C snaps drop (decide (0<(aQ r.K r.S drop ls).length))) (bB drop r.C.aj) r.C.next (aQ r.K r.S drop ls) m).2.1,S:=iM (bu r.S drop) (aX r.K (cE r.C snaps drop (decide (0<(aQ r.K r.S drop ls).length))) (bB drop r.C.aj) r.C.next (aQ r.K r.S drop ls) m).2.2 })

theorem HS {S:Refs} (h:Asc S) {r x:bq} (hx:x∈qO S r):x=r∨x∈S:=by
 obtain ⟨A,B,e,hS,_⟩:=pg h r
 rw [e] at hx
 rcases List.mem_append.1 hx with hx | hx
 · rcases hS with rfl | ⟨y,_,rfl⟩
   · exact .inr (List.mem_append_left _ hx)
   · exact .inr (List.mem_append_left _ hx)
 · rcases List.mem_cons.1 hx with rfl | hx
   · exact .inl rfl
   · rcases hS with rfl | ⟨y,_,rfl⟩
     · exact .inr (List.mem_append_right _ hx)
     · exact .inr (List.mem_append_right _ (List.mem_cons_of_mem _ hx))
theorem CN:∀ {l S:Refs},Asc S→∀ {x:bq},x∈iM S l→x∈l∨x∈S
 | [],_,_,_,hx=>.inr hx
 | r::l,S,h,x,hx=>by
   rcases CN (l:=l) (rX h r) hx with h1 | h1
   · exact .inl (List.mem_cons_of_mem _ h1)
   · rcases HS h h1 with rfl | h1
     · exact .inl (List.mem_cons_self ..)
     · exact .inr h1

theorem Co {α:Type} {l:List α} {i:Nat} {v:α} (h:l[i]?=some v):l.set i v=l:=by
 obtain ⟨hi,e⟩:=List.getElem?_eq_some_iff.1 h
 rw [←e];simp

section
variable {w0 w w':World} {N T L:List Res} {gd gr:Nat} {ps:List Nat} {m:af} {r:gZ} {q:wD} {B:Res}

theorem ah.fr (h:ah w0 [] w gd ps m ((N++T)++L)):ah w0 [] w gd ps m ((L++N)++T):=h.yw (by rw [List.append_assoc L];exact List.perm_append_comm)
theorem ah.fr1 (h:ah w0 [] w gd ps m (((B::N)++T)++L)):ah w0 [] w gd ps m ((B::(L++N))++T):=by
 have p:((N++T)++L).Perm ((L++N)++T):=by rw [List.append_assoc L];exact List.perm_append_comm
 exact h.yw (List.Perm.cons _ p)
theorem fr4 (A:List Res) (s p g c:Res):(A++ [s,p,g,c]).Perm (g::(A++ [c,s,p])):=by
 have h1:([s,p]++ [g,c]:List Res).Perm ([g,c]++ [s,p]):=List.perm_append_comm
 exact (List.Perm.append_left A h1).trans List.perm_middle

theorem NT (X S N G:List Res):((X++(S++N))++G).Perm (N++(G++(S++X))):=by
 have h1:((X++(S++N))++G).Perm ((N++(S++X))++G):=by
   refine List.Perm.append_right G ?_
   have h2:(X++(S++N)).Perm ((S++N)++X):=List.perm_append_comm
   refine h2.trans ?_
   have h3:((S++N)++X).Perm ((N++S)++X):=List.Perm.append_right X List.perm_append_comm
   rw [List.append_assoc N] at h3
   exact h3
 refine h1.trans ?_
 rw [List.append_assoc]
 exact List.Perm.append_left N List.perm_append_comm
theorem vX {K:List UInt8} {c:bR} {m:af} (h:(aW K c m).2=none):aH c=true:=by
 cases hc:aH c with
 | true=>rfl
 | false=>rw [aW,hc] at h;simp at h

theorem ROk.at_ (ok:ROk r q) (l:List Nat):ROk r { q with ps:=l } :=⟨ok.Ma,ok.Ei,ok.kl,ok.poly,ok.chk,ok.cok,ok.names,ok.sn,ok.pn,ok.good⟩

theorem Jm (n:Nm) (e:Int) (m:af):Cnt 2 m (kQ n e m).1:=by
 have h1:=rW m n
 have h2:=kX (aL m n).1
 unfold kQ
 split
 · exact h1.mono (by decide)
 · split<;>exact h1.trans h2
theorem LD (n:Nm) (m:af):Cnt 3 m (C2 n m).1:=by
 have h1:=kX m
 unfold C2
 split
 · exact h1.mono (by decide)
 · split
   · exact h1.mono (by decide)
   · exact h1.trans (Jm _ _ _)
theorem Gg (b:List UInt8) (n:Nm):∀(k:Nat) (m:af),Cnt (k+3) m (wv b n k m).1
 | 0,m=>LD n m
 | k+1,m=>by
   have h:=Ar b n (4-k) m
   unfold wv aP
   split
   · exact h.mono (by omega)
   · exact (h.trans (Gg b n k _)).mono (by omega)
theorem rO (K:List UInt8) (c:bR) (m:af):Cnt 20 m (aW K c m).1:=by
 have h:=lR tN m
 unfold aW
 split
 · unfold aP
   split
   · exact h.mono (by decide)
   · exact (h.trans (Gg _ _ 5 _)).mono (by decide)
 · exact (Cnt.refl m).mono (by decide)
theorem FE (K:List UInt8) (c:bR) (Q:List PkD) (num:Int) (xs:List Itm) (m:af) (hx:xs.length≤4096):Cnt 5000 m (aX K c Q num xs m).1.1:=by
 unfold aX
 split
 · exact (rO K c m).mono (by decide)
 have h1:=lR (ay num) m
 obtain ⟨m1,hm1⟩:∃m1,(bf (ay num) m).1=m1:=⟨_,rfl⟩
 rw [hm1] at h1 ⊢
 have h2:Cnt 4200 m1 (svA K num xs m1).1:=by
   have:=Ab K num xs m1
   exact ⟨by have:=this.1;omega,by have:=this.2.1;omega⟩
 split
 · exact h1.mono (by decide)
 · split
   · exact (h1.trans h2).mono (by decide)
   · exact ((h1.trans h2).trans (rO K _ _)).mono (by decide)

theorem HJ {K:List UInt8} {c:bR} {Q:List PkD} {num:Int} {xs:List Itm} {m:af} (h:(aX K c Q num xs m).1.2=none):aH (aX K c Q num xs m).2.1=true∧
   ((xs=[]∧(aX K c Q num xs m).2=(c,[]))∨(xs≠ []∧(aX K c Q num xs m).2=(gh c Q ⟨num,((aY K num xs).length:Int),(xs.length:Int)⟩,aT num 16 xs))):=by
 unfold aX at h ⊢
 split at h
 · rename_i hx
   rw [if_pos hx]
   exact ⟨vX h,.inl ⟨hx,rfl⟩⟩
 · rename_i hx
   rw [if_neg hx]
   split at h
   · simp at h
   · rename_i h1
     try rw [h1]
     try simp only
     split at h
     · simp at h
     · rename_i h2
       try rw [h2]
       exact ⟨vX h,.inr ⟨hx,rfl⟩⟩
theorem u7:∀ {l:List PkD} {next last:Int},oo next last l=true→∀p∈l,last<p.num∧p.num<next
 | [],_,_,_,p,hp=>by cases hp
 | x::l,next,last,h,p,hp=>by
   simp only [oo,Bool.and_eq_true,decide_eq_true_eq] at h
   rcases List.mem_cons.1 hp with rfl | hp
   · exact ⟨h.1.1,h.1.2.1⟩
   · have:=u7 h.2 p hp
     exact ⟨by omega,this.2⟩
theorem EV {C:bR} (h:aH C=true) {p:PkD} (hp:p∈C.aj):cU p.num=true:=by
 have hb:=bH h
 unfold aH at h
 simp only [Bool.and_eq_true] at h
 have:=u7 h.2.2.2 p hp
 exact dO.2 ⟨by omega,by omega⟩

set_option maxHeartbeats 8000000 in
theorem FG (a1:Option Addr) (n1 c1:Nat) (vs:List Value) (ls:List (List UInt8)) (a2:Option Addr) (n2 c2:Nat) (snaps:List dY) (a3:Option Addr) (n3 c3:Nat) (drop:List Int)
   (h:G6 w0 w gd gr m r N) (hK:cR w0) (hT:jr w0) (hra:Rd w a1 n1 c1 1 vs) (hrb:eL w vs ls) (hls:∀l∈ls,l.length≤67000000) (hn1:n1≤1000000) (hsn:RdS w a2 n2 c2 snaps) (hsl:∀s∈snaps,s.name.length≤4611686018427387904) (hsi:∀s∈snaps,s.size≤9223372036854775807) (hn2:n2≤1000000)
   (hrz:∀w',St w0 [] w' N→RdZ w' a3 n3 c3 drop) (hn3:n3≤1000000) (hs:cH (aQ r.K r.S drop ls)) (hb1:m.steps≤800000) (hb2:m.chs.length≤800000000):
   Calls Tryz.prog 49 #[pV gr,.slice a1 n1 c1,.slice a2 n2 c2,.slice a3 n3 c3] w fun e w'=>e=.returned (bk (eR r m ls snaps drop).1.2)∧G6 w0 w' gd gr (eR r m ls snaps drop).1.1 (eR r m ls snaps drop).2 N:=by
 obtain ⟨mI,hI⟩:=eI
 obtain ⟨q,ok,h⟩:=h
 have hbd:=bH ok.chk
 apply rE
 obtain ⟨g7,w1,r1,k1⟩:=(St.start w).box (P:=Tryz.prog) 29 (.slice a3 n3 c3)
 have k1:St w [] w1 [.arr g7 29 [.slice a3 n3 c3]]:=k1
 obtain ⟨B,hB⟩:∃B:Res,Res.arr g7 29 [.slice a3 n3 c3]=B:=⟨_,rfl⟩
 have h1:ah w0 [] w1 gd q.ps m ((B::N)++q.T gd gr r):=by
   have:=(h.dh k1).fr
   rw [hB] at this
   exact this
 have ldB:∀ {w':World} {M:List Res},St w0 [] w' (B::M)→(Instr.loadAt 29 (.pointer (some ⟨g7,0,none⟩))).run Tryz.prog w'=.ok (.slice a3 n3 c3) w':=fun h'=>ldQ (i:=0) h' (by rw [←hB];rfl) (Nd _)
 refine ⟨g7,w1,r1,(vQ ok h1).mono ?_⟩
 rintro e w2 ⟨rfl,rfl⟩
 have sub1:∀ {w':World} {ps m' r'} {L:List Res},ah w0 [] w' gd ps m' ((B::(L++N))++q.T gd gr r')→ah w0 [] w' gd ps m' (N++q.T gd gr r'):=fun h'=>h'.wC (List.Sublist.cons _ (List.Sublist.append_right (List.sublist_append_right _ _) _))
 refine ⟨_,rfl,_,au hI _ _ _,fun hbad=>?_,fun hgood=>?_⟩
 · obtain ⟨y,hy⟩:=Option.isSome_iff_exists.1 hbad
   have e1:eR r m ls snaps drop=((m,some y),r):=by unfold eR;rw [hy]
   rw [e1,hy]
   exact ⟨rfl,q,ok,sub1 (L:=[]) h1⟩
 have hrd:kO r m=none:=by simpa using hgood
 refine ⟨_,_,_,ldB h1.rest,(ER a1 n1 c1 vs ls a3 n3 c3 drop ok h1 hK (hra.an k1.chg) (hrb.an k1.chg) (hrz _ (sub1 (L:=[]) h1).cut.rest) hn1 hn3 hls).mono ?_⟩
 rintro e w3 ⟨a,c0,O,rfl,hO,f3⟩
 have h3:=(h1.dh f3).fr1
 obtain ⟨xs,hxs⟩:∃xs,aQ r.K r.S drop ls=xs:=⟨_,rfl⟩
 have hOl:O.length=xs.length:=by rw [←hxs,←hO,List.length_map]
 obtain ⟨grows,hgr⟩:∃b,decide (0<xs.length)=b:=⟨_,rfl⟩
 have hgr':decide ((O.length:Int)>0)=grows:=by rw [←hgr,hOl];simp
 refine ⟨_,_,_,rfl,?_⟩
 try dsimp only
 rw [hgr']
 refine ⟨_,_,_,ldB h3.rest,(Is a2 n2 c2 snaps a3 n3 c3 drop grows ok h3 (hsn.an (k1.chg.trans f3.chg)) hsl (hrz _ (sub1 h3).cut.rest) hn2 hn3).mono ?_⟩
 rintro e w4 ⟨cs,ga,gn,gc,rfl,hcl,hc1,c4,hok⟩
 obtain ⟨g11,w5,r5,k5⟩:=(St.start w4).az AF
 have k5:St w4 [] w5 [.arr g11 47 gQ]:=k5
 obtain ⟨w6,r6,k6⟩:=k5.stA (i:=0) (v:=cs) rfl (fI _) rfl hcl hc1
 have k6:St w4 [] w6 [.arr g11 47 cs]:=k6
 refine ⟨_,_,_,_,_,rfl,g11,w5,r5,w6,r6,_,au hI _ _ _,fun hbad=>?_,fun hgood2=>?_⟩
 · obtain ⟨y,hy⟩:=Option.isSome_iff_exists.1 hbad
   have e1:eR r m ls snaps drop=((m,some y),r):=by unfold eR;rw [hrd,hxs,hgr];simp only;rw [hy]
   rw [e1,hy]
   exact ⟨rfl,q,ok,sub1 (h3.same (c4.trans k6.chg))⟩
 have hnx:jK r.C snaps drop grows=none:=by simpa using hgood2
 obtain ⟨sa,sc,pa,pc,rfl,rfl,f4⟩:=hok hnx
 obtain ⟨c,hc⟩:∃c,cE r.C snaps drop grows=c:=⟨_,rfl⟩
 rw [hc] at f4 k6
 obtain ⟨Gn,hGn⟩:∃Gn:Res,Res.row 91 3 (.slice ga (cu drop r.C.aj).length gc) (cu drop r.C.aj).length ((cu drop r.C.aj).flatMap pkC)=Gn:=⟨_,rfl⟩
 rw [hGn] at f4
 obtain ⟨N2,hN2⟩:∃N2:List Res,(Res.row 303 33 (.slice a O.length c0) O.length (O.flatMap itC)::O.map vV)++N=N2:=⟨_,rfl⟩
 rw [hN2] at h3
 have h6:ah w0 [] w6 gd q.ps m (((B::Gn::N2)++q.T gd gr r)++nF g11 c sa sc pa pc):=by
   have h5:=(h3.dh f4).dh k6
   refine h5.yw ?_
   rw [List.append_assoc]
   exact List.Perm.cons _ (fr4 (N2++q.T gd gr r) _ _ _ _)
 have hgp:cU r.C.next=true:=dO.2 ⟨hbd.2.1.1,hbd.2.1.2⟩
 have hds:c.set=r.C.set:=by rw [←hc];rfl
 have hdn:c.snaps=snaps:=by rw [←hc];rfl
 have hdp:c.aj=bB drop r.C.aj++if grows then [⟨r.C.next,0,0⟩] else []:=by rw [←hc];rfl
 have hkp:∀p∈bB drop r.C.aj,p.size≤9223372036854775807∧p.count≤9223372036854775807:=fun p hp=>by
   have:=ok.cok.aj p (List.mem_filter.1 hp).1
   exact ⟨this.2.1.2,this.2.2.2⟩
 have hpl:c.aj.length≤1025:=by
   have:=AL drop r.C.aj
   have:=hbd.2.2.2
   rw [hdp,List.length_append]
   split<;>simp<;>omega
 have hxO:O.map ItD.t=xs:=by rw [hO,hxs]
 have hbl:(aY r.K r.C.next xs).length≤90000000∧xs.length≤4096:=by
   rw [hxs] at hs
   exact ⟨uk _ _ hs,hs.num⟩
 have hcok:aH (gh c (bB drop r.C.aj) ⟨r.C.next,((aY r.K r.C.next (O.map ItD.t)).length:Int),((O.map ItD.t).length:Int)⟩)=true→gE (gh c (bB drop r.C.aj) ⟨r.C.next,((aY r.K r.C.next (O.map ItD.t)).length:Int),((O.map ItD.t).length:Int)⟩):=fun hck=>by
   refine kH hck ⟨by show c.set.poly<_;rw [hds];exact ok.poly,by show ∀s∈c.snaps,_;rw [hdn];exact hsi,fun p' hp'=>?_⟩
   rcases List.mem_append.1 hp' with hp' | hp'
   · exact hkp p' hp'
   · rw [List.mem_singleton.1 hp',hxO]
     exact ⟨by show ((aY r.K r.C.next xs).length:Int)≤_;omega,by show (xs.length:Int)≤_;omega⟩
 have hco:aH c=true→gE c:=fun hck=>by
   refine kH hck ⟨by rw [hds];exact ok.poly,by rw [hdn];exact hsi,fun p' hp'=>?_⟩
   rw [hdp] at hp'
   rcases List.mem_append.1 hp' with hp' | hp'
   · exact hkp p' hp'
   · cases grows with
     | false=>simp at hp'
     | true=>
       rw [if_pos rfl] at hp'
       rw [List.mem_singleton.1 hp']
       exact ⟨by show (0:Int)≤_;omega,by show (0:Int)≤_;omega⟩
 have hlast:O≠ []→c.aj=bB drop r.C.aj++ [⟨r.C.next,0,0⟩]∧cU r.C.next=true:=fun hne=>by
   have:grows=true:=by
     rw [←hgr']
     have:0<O.length:=List.length_pos_iff.2 hne
     simp;omega
   rw [hdp,this]
   exact ⟨rfl,hgp⟩
 have hit:∀w',St w0 [] w' (B::Gn::N2)→ItR w' a O.length c0 O:=fun w' k=>by
   rw [←hN2] at k
   refine ⟨⟨k.rd (i:=2) rfl,fun x _=>wH x⟩,fun x hx=>?_⟩
   obtain ⟨j,hj⟩:=List.getElem?_of_mem hx
   refine k.rd (e:=5) (i:=j+3) ?_
   show ((O.map vV)++N)[j]?=_
   have hjl:=(List.getElem?_eq_some_iff.1 hj).1
   rw [List.getElem?_append_left (by simpa using hjl),List.getElem?_map,hj]
   rfl
 refine (EC c (bB drop r.C.aj) r.C.next sa sc pa pc O a c0 ok h6 hK hT hlast hit (by rw [hxO,←hxs];exact hs) (by rw [hds];exact ok.poly) (by rw [hdn];exact hsl) hcok hco (by omega) (by omega) (by omega)).mono ?_
 rintro e w7 ⟨ra,rc,ps7,rfl,hA,hBs⟩
 rw [hxO] at hA hBs ⊢
 obtain ⟨W,hW⟩:∃W,aX r.K c (bB drop r.C.aj) r.C.next xs m=W:=⟨_,rfl⟩
 have hap:eR r m ls snaps drop=(match W.1.2 with
     | some e=>(((eM r W.1.1 e grows).1,some e),(eM r W.1.1 e grows).2)
     | none=>((dX (aV 99 r.C.gen::(cu drop r.C.aj).map fun p=>ay p.num) W.1.1,none), { r with C:=W.2.1,S:=iM (bu r.S drop) W.2.2 })):=by
   unfold eR
   rw [hrd,hxs,hgr]
   simp only
   rw [hnx,hc,hW]
 have hcnt:Cnt 5000 m W.1.1:=by rw [←hW];exact FE _ _ _ _ _ _ (by rw [←hxs];exact hs.num)
 rw [hW] at hA hBs ⊢
 refine ⟨_,_,_,_,rfl,_,au hI _ _ _,fun hbad=>?_,fun hgood3=>?_⟩
 · obtain ⟨y,hy⟩:=Option.isSome_iff_exists.1 hbad
   rw [hy]
   refine (B9 y grows (ok.at_ ps7) hA hT (fun _=>hgp) ⟨by have:=hcnt.1;omega,by have:=hcnt.2;omega⟩).mono ?_
   rintro e w8 ⟨rfl,h8⟩
   refine ⟨_,rfl,?_⟩
   rw [hap,hy]
   refine ⟨rfl, { q with ps:=ps7 },?_,?_⟩
   · show ROk (eM r W.1.1 y grows).2 _
     unfold eM
     split
     · exact (ok.at_ ps7).die
     · exact ok.at_ ps7
   · exact h8.wC (List.Sublist.append_right (List.Sublist.cons _ (List.Sublist.cons _ (by rw [←hN2];exact List.sublist_append_right _ _))) _)
 have hw2:W.1.2=none:=by simpa using hgood3
 have h7:=hBs hw2
 obtain ⟨hck,hW2⟩:=HJ (by rw [hW];exact hw2)
 rw [hW] at hck hW2
 obtain ⟨⟨m7,o7⟩,c',rs⟩:=W
 simp only at hw2 hck hW2 h7 hap hcnt
 subst hw2
 have hc's:c'.set=r.C.set∧c'.snaps=snaps∧gE c':=by
   rcases hW2 with ⟨_,e⟩ | ⟨_,e⟩
   · obtain ⟨rfl,_⟩:=Prod.mk.inj e
     exact ⟨hds,hdn,hco hck⟩
   · obtain ⟨rfl,_⟩:=Prod.mk.inj e
     refine ⟨hds,hdn,?_⟩
     rw [←hxO] at hck ⊢
     exact hcok hck
 have hrs:∀y∈rs,iN y=true∧y.len≤67000000:=by
   rcases hW2 with ⟨_,e⟩ | ⟨_,e⟩
   · obtain ⟨_,rfl⟩:=Prod.mk.inj e
     simp
   · obtain ⟨_,rfl⟩:=Prod.mk.inj e
     rw [hxs] at hs
     exact yl hgp (fun x hx=>⟨hs.idl x hx,hs.fD hx⟩) (by have:=hs.bytes;omega)
 have hrl:rs.length≤4096:=by
   rcases hW2 with ⟨_,e⟩ | ⟨_,e⟩
   · obtain ⟨_,rfl⟩:=Prod.mk.inj e
     simp
   · obtain ⟨_,rfl⟩:=Prod.mk.inj e
     rw [fu];exact hbl.2
 obtain ⟨r1,hr1⟩:∃r1:gZ, { r with C:=c',S:=iM (bu r.S drop) rs } =r1:=⟨_,rfl⟩
 have hap:eR r m ls snaps drop=((dX (aV 99 r.C.gen::(cu drop r.C.aj).map fun p=>ay p.num) m7,none),r1):=by rw [hap,←hr1]
 rw [hap]
 have hgg:=DL ok.chk
 have hname:=mD r.C.gen (by omega) w7 (hT.an h7.chg)
 rw [hgg,if_pos rfl] at hname
 obtain ⟨nm,hnm⟩:∃nm,aV 99 r.C.gen=nm:=⟨_,rfl⟩
 rw [hnm] at hname ⊢
 refine ⟨_,h7.cut.top.ldL (i:=0) (o:=98) rfl (jQ _) rfl (sF ok.kl q.sa q.sc q.pa q.pc 0),hname.mono ?_⟩
 rintro e w9 ⟨rfl,c9⟩
 have h9:=h7.same c9
 obtain ⟨L,hL⟩:∃L,nF g11 c' sa sc pa pc++ [nY ra rc rs]=L:=⟨_,rfl⟩
 have h9f:=h9.fr
 obtain ⟨w10,r10,k10⟩:=h9f.top.self.stO (i:=0) (o:=98) (off:=0+98) (n:=9) (v:=bV c' sa c'.snaps.length sc pa c'.aj.length pc) rfl (fI _) rfl (by rw [rZ ok.kl];decide) rfl (mm _ _ _ _ _ _ _)
 rw [vR ok.kl q.sa q.sc q.pa q.pc c' sa sc pa pc (iM (bu r.S drop) rs),hr1] at k10
 obtain ⟨A3,hA3⟩:∃A3:List Res,[.arr gr 145 (fK gd q.gi r1 sa sc pa pc),lB r.C q.sa q.sc,lF r.C q.pa q.pc]=A3:=⟨_,rfl⟩
 have k10:St w9 (iF (q.T gd gr r)) w10 (A3++ixR q.gi q.gm q.es q.ck):=by rw [←hA3];exact k10
 have h10:=h9f.qP k10
 rw [hL,←List.append_assoc] at h10
 obtain ⟨Z,hZ⟩:∃Z,(L++(B::Gn::N2))++A3=Z:=⟨_,rfl⟩
 rw [hZ] at h10
 have zB:Z[4]?=some B:=by rw [←hZ,←hL];rfl
 have zG:Z[5]?=some Gn:=by rw [←hZ,←hL];rfl
 have zR:Z[3]?=some (nY ra rc rs):=by rw [←hZ,←hL];rfl
 have subA:∀ {w':World} {M:List Res},St w0 [] w' (Z++M)→St w0 [] w' A3:=fun k=>by
   rw [←hZ] at k
   exact (k.sub (List.sublist_append_left _ _)).sub (List.sublist_append_right _ _)
 have ldX:∀ {w':World} {M:List Res},St w0 [] w' (Z++M)→(Instr.loadAt 143 (.pointer (some ⟨gr,0+1,none⟩))).run Tryz.prog w'=.ok (pV q.gi) w':=fun k=>(subA k).ldL (i:=0) (o:=1) (by rw [←hA3];rfl) (LY _) rfl rfl
 have getZ:∀ {M:List Res} {i:Nat} {x:Res},Z[i]?=some x→(Z++M)[i]?=some x:=fun hx=>by rw [List.getElem?_append_left (List.getElem?_eq_some_iff.1 hx).1];exact hx
 have ldB2:∀ {w':World} {M:List Res},St w0 [] w' (Z++M)→(Instr.loadAt 29 (.pointer (some ⟨g7,0,none⟩))).run Tryz.prog w'=.ok (.slice a3 n3 c3) w':=fun h'=>ldQ (i:=4) h' (by rw [getZ zB,←hB]) (Nd _)
 have wC:∀ {w':World} {M:List Res},St w0 [] w' (Z++M)→St w0 [] w' N:=fun k=>by
   rw [←hZ,←hN2] at k
   exact (((k.sub (List.sublist_append_left _ _)).sub (List.sublist_append_left _ _)).sub (List.sublist_append_right _ _)).sub (List.Sublist.cons _ (List.Sublist.cons _ (List.sublist_append_right _ _)))
 have h10d:=h10.same (Chg.drew [] w10)
 refine ⟨_,rfl,_,h9.top.ldA (i:=0) (l:=bV c' sa c'.snaps.length sc pa c'.aj.length pc) rfl (jM _) (fI _) rfl,w10,r10,fun w'=>∃M:List Res,St w0 [] w' (Z++M),⟨_,h10d.rest⟩,_,_,fun w' ⟨_,k⟩=>ldX k,_,_,_,fun w' ⟨_,k⟩=>ldB2 k,(Fk (w0:=w0) (X:=[]) (N:=[]) a3 n3 c3 drop ⟨_,_,_,ok.Ma,ok.Ei,h10d.top⟩ (hrz _ (wC h10d.rest)) hn3).mono ?_⟩
 rintro e w11 ⟨rfl,es1,ck1,M1,hE1,hM1,k11⟩
 have h11:=h10d.qP (T':=ixR q.gi q.gm es1 ck1) k11
 refine ⟨rfl,_,fun _ h=>h,⟨_,h11.rest⟩,_,_,ldX h11.rest,(Ho (w0:=w11) (X:=[q.gi,q.gm]) (N:=[]) q.gi q.gm (bu r.S drop) ra rs.length rc rs (gv.self (w0:=w0) (X:=[]) (N:=[]) ⟨_,_,_,hE1,hM1,h11.top⟩) ⟨h11.rest.rd (i:=3) (by rw [getZ zR]),fun x _=>aI x⟩ (by omega)).mono ?_⟩
 rintro e w12 ⟨_,hadd⟩
 rcases hadd with ⟨_,rfl,es2,ck2,M2,hE2,hM2,k12⟩ | ⟨hbad,_⟩
 rotate_left
 · have:rs.all iN=true:=List.all_eq_true.2 fun y hy=>(hrs y hy).1
   rw [this] at hbad
   cases hbad
 have h12:=h11.qP (T':=ixR q.gi q.gm es2 ck2) k12
 refine ⟨_,rfl,_,au hI none _ _,fun h=>by simp at h,fun _=>?_⟩
 obtain ⟨G,hG⟩:∃G,cu drop r.C.aj=G:=⟨_,rfl⟩
 rw [hG] at hGn ⊢
 have hGl:G.length≤1024:=by rw [←hG];exact Nat.le_trans (z7 _ _) hbd.2.2.2
 obtain ⟨g13,w13,r13,k13⟩:=(St.start w12).lit Hz [aJ nm] (by simp [Value.oneCell',aJ]) (by simp)
 have h13:=h12.dh k13
 let U (i:Nat):List Nm:=nm::(G.take i).map fun p=>ay p.num
 let R1 (a:Option Addr) (n c i:Nat):Res:=.row 9 1 (.slice a n c) n ((U i).map aJ)
 have hGr:∀ {w':World} {M:List Res},St w0 [] w' (Z++M)→RdE pkC 3 w' ga G.length gc G:=fun k=>⟨k.rd (i:=5) (by rw [getZ zG,←hGn]),fun _ _=>rfl⟩
 refine ⟨_,_,_,w13,r13,fun a n c x w'=>∃i:Nat,x=(i:Int)∧i≤G.length∧n=i+1∧ah w0 [] w' gd ps7 m7 ((Z++ixR q.gi q.gm es2 ck2)++ [R1 a n c i]),fun _ _ _ x _=>G.length-x.toNat,⟨0,rfl,by omega,rfl,h13⟩,?_⟩
 rintro a n c x w14 ⟨i,rfl,hi,rfl,h14⟩
 have z14:St w0 [] w14 (Z++(ixR q.gi q.gm es2 ck2++ [R1 a (i+1) c i])):=by rw [←List.append_assoc];exact h14.rest
 refine ⟨fun hlt=>?_,fun hge=>?_⟩
 · have hi':i<G.length:=by simp at hlt;omega
   obtain ⟨p,hp⟩:∃p,G[i]?=some p:=⟨_,List.getElem?_eq_getElem hi'⟩
   have hpg:cU p.num=true:=by
     have:=List.mem_of_getElem? hp
     rw [←hG] at this
     exact EV ok.chk (List.mem_filter.1 this).1
   obtain ⟨b,o,hab,hld⟩:=(hGr z14).ld (P:=Tryz.prog) (by decide) pqA pqS hp
   obtain ⟨g19,w15,r15,k15⟩:=h14.top.self.az Oj
   obtain ⟨w16,r16,k16⟩:=k15.stA (i:=1) (v:=pkC p) rfl (pqS _) rfl rfl (sL p)
   have k16:St w14 (iF [R1 a (i+1) c i]) w16 [R1 a (i+1) c i,.arr g19 91 (pkC p)]:=k16
   have h16:=h14.qP k16
   refine ⟨b,o,hab,by omega,by omega,_,hld w14 (hGr z14),g19,w15,r15,w16,r16,_,k16.ldL (i:=1) (o:=0) rfl (jQ _) rfl rfl,(jo p.num w16 (hT.an h16.chg) hpg).mono ?_⟩
   rintro e w17 ⟨rfl,c17⟩
   obtain ⟨g,w18,va,vc,w19,r18,r19,k19,_,_⟩:=(k16.same c17).Jk (i:=0) (ty:=166) Hz rfl (aJ (ay p.num)) rfl (by omega) (by rw [show maxLen=9223372036854775807 from rfl];omega)
   refine ⟨_,rfl,_,_,_,w18,r18,_,_,_,w19,r19,⟨i+1,aq hi' (by omega),by omega,rfl,?_⟩,aB hi' (by omega)⟩
   have e1:(U (i+1)).map aJ=(U i).map aJ++ [aJ (ay p.num)]:=by
     show (nm::(G.take (i+1)).map fun p=>ay p.num).map aJ=_
     rw [List.take_add_one,hp]
     simp [U]
   have k20:St w14 (iF [R1 a (i+1) c i]) w19 [R1 va (i+1+1) vc (i+1)]:=by
     show St _ _ _ [.row 9 1 (.slice va (i+1+1) vc) (i+1+1) ((U (i+1)).map aJ)]
     rw [e1]
     exact k19.sub (List.Sublist.cons_cons _ (List.nil_sublist _))
   exact h14.qP k20
 · have hi':i=G.length:=by simp at hge;omega
   subst hi'
   have hU:U G.length=nm::G.map fun p=>ay p.num:=by show nm::(G.take G.length).map _=_;rw [List.take_length]
   have kl1:r1.K.length=96:=by rw [←hr1];exact ok.kl
   have c1:r1.C=c':=by rw [←hr1]
   have h15:ah w0 [] w14 gd ps7 m7 (((ixR q.gi q.gm es2 ck2++ [R1 a (G.length+1) c G.length])++(L++(B::Gn::N2)))++A3):=by
     have:=h14
     rw [List.append_assoc,←hZ] at this
     exact this.fr
   have ldA:∀o' v,(fK gd q.gi r1 sa sc pa pc)[o']?=some v→∀w' T,(isAgg T).run Tryz.prog w'=.ok false w'→St w0 [] w' A3→(Instr.loadAt T (.pointer (some ⟨gr,o',none⟩))).run Tryz.prog w'=.ok v w':=fun o' v hv w' T hT' k=>k.ldL (i:=0) (o:=o') (by rw [←hA3];rfl) hT' rfl hv
   have h107:(fK gd q.gi r1 sa sc pa pc)[107]?=some (.slice none 0 0):=sF kl1 sa sc pa pc 9
   obtain ⟨w22,r22,k22⟩:=h15.top.self.stL (i:=0) (o:=107) (off:=0+107) (T:=29) (v:=.slice none 0 0) (by rw [←hA3];rfl) (Tryz.sizeOf29 _) rfl (by rw [rZ kl1];decide) rfl
   rw [Co h107,show A3.set 0 (.arr gr 145 (fK gd q.gi r1 sa sc pa pc))=A3 from Co (by rw [←hA3];rfl)] at k22
   have h22:=h15.qP k22
   refine ⟨_,_,_,ldA 107 _ h107 w14 _ (Nd _) h15.top,.func (.func 134) #[] #[.pointer (some ⟨g7,0,none⟩)],w14,by simp [Instr.makeFunc],(Ck _ w14).mono ?_⟩
   rintro e w21 ⟨rfl,rfl⟩
   have hnum:∀w',St w0 [] w' (((ixR q.gi q.gm es2 ck2++ [R1 a (G.length+1) c G.length])++(L++(B::Gn::N2)))++A3)→Rd w' a (G.length+1) c 1 ((U G.length).map aJ):=fun w' k=>k.rd (i:=2) rfl
   refine ⟨_,_,_,rfl,w22,r22,_,h22.top.ldP (i:=0) (o:=0) (n:=1) (xs:=[pV gd]) (l:=fK gd q.gi r1 sa sc pa pc) (T':=145) (by rw [←hA3];rfl) (plA _) (plS _) rfl rfl,(Al a _ c (U G.length) h22 (fun w' _ k=>hnum w' k) (by omega) ⟨by have:=hcnt.1;simp [U];omega,by have:=hcnt.2;simp [U];omega⟩).mono ?_⟩
   rintro e w24 ⟨rfl,h24⟩
   rw [hU] at h24
   refine ⟨rfl,rfl,⟨ps7,q.gi,q.gm,es2,ck2,M2,sa,sc,pa,pc⟩,?_,?_⟩
   · refine ⟨hE2,by rw [←hr1];exact hM2,kl1,by rw [c1,hc's.1];exact ok.poly,by rw [c1];exact hck,by rw [c1];exact hc's.2.2,by rw [c1,hc's.2.1];exact hsl,by rw [c1];have:=(bH hck).2.2.1;omega,by rw [c1];have:=(bH hck).2.2.2;omega,?_⟩
     rw [←hr1]
     intro x hx
     rcases CN (vP ok.Ei.asc drop) hx with hx | hx
     · exact hrs x hx
     · exact ok.good x (List.mem_filter.1 hx).1
   · have h25:ah w0 [] w24 gd ps7 (dX (nm::G.map fun p=>ay p.num) m7) ((ixR q.gi q.gm es2 ck2++([lB c' sa sc,lF c' pa pc]++N))++ [.arr gr 145 (fK gd q.gi r1 sa sc pa pc)]):=by
       refine h24.wC (List.Sublist.append (List.Sublist.append (List.sublist_append_left _ _) (List.Sublist.append ?_ (List.Sublist.cons _ (List.Sublist.cons _ (by rw [←hN2];exact List.sublist_append_right _ _))))) ?_)
       · rw [←hL];exact List.Sublist.cons _ (List.Sublist.cons_cons _ (List.Sublist.cons_cons _ (List.nil_sublist _)))
       · rw [←hA3];exact List.Sublist.cons_cons _ (List.nil_sublist _)
     refine h25.yw ?_
     show List.Perm _ (N++([.arr gr 145 (fK gd q.gi r1 sa sc pa pc)]++([lB r1.C sa sc,lF r1.C pa pc]++ixR q.gi q.gm es2 ck2)))
     rw [c1]
     exact NT _ _ _ _
end

end Go.Proofs.YtpmhjnhgpplmnaaGreatDoor
end

section
namespace Go.Proofs.YtpmhjnhgpplmnaaGreatDoor
open Go Sx
set_option maxRecDepth 8000

theorem vG (gd:Nat) (w:World):(Instr.build 142 #[(0,pV gd)]).run Tryz.prog w=.ok (plV gd) w:=by
 have hb:Tryz.prog.built 142=fun parts=>Instr.fill (fun i=>(#[(0,1)]:Array (Nat×Nat))[i]?) #[.pointer none] parts:=by kernel_rfl
 apply run_build
 rw [hb]
 show Instr.fill _ _ [(0,_)]=_
 rw [aA (off:=0) (sz:=1) rfl rfl (by simp)]
 rfl
theorem Dr (s:gJ) (w:World):(Instr.build 47 #[(0,.int .i64 1),(2,.agg (cq s).toArray)]).run Tryz.prog w=.ok (.agg (bV ⟨1,0,s,[],[]⟩ none 0 0 none 0 0).toArray) w:=by
 have hb:Tryz.prog.built 47=fun parts=>Instr.fill (fun i=>(#[(0,1),(1,1),(2,5),(7,1),(8,1)]:Array (Nat×Nat))[i]?) gQ.toArray parts:=by kernel_rfl
 apply run_build
 rw [hb]
 show Instr.fill _ _ [(0,_),(2,_)]=_
 rw [aA (off:=0) (sz:=1) rfl rfl (by simp [gQ]),aA (off:=2) (sz:=5) rfl rfl (by simp [gQ,Value.cells])]
 rfl
def Nc:List Value:=[.pointer none,.pointer none]++(bv (List.replicate 96 0)++(gQ++ [Value.slice none 0 0,Value.bool false]))
theorem Fa:Tryz.prog.built 145=fun parts=>Instr.fill (fun i=>(#[(0,1),(1,1),(2,96),(98,9),(107,1),(108,1)]:Array (Nat×Nat))[i]?) Nc.toArray parts:=by kernel_rfl
theorem Dd (gd gi:Nat) (r:gZ) (hk:r.K.length=96) (hd:r.dead=false) (hs:r.C.snaps=[]) (hp:r.C.aj=[]) (w:World):
   (Instr.build 145 #[(0,plV gd),(1,pV gi),(2,.agg (bv r.K).toArray),(3,.agg (bV r.C none 0 0 none 0 0).toArray)]).run Tryz.prog w=.ok (.agg (fK gd gi r none 0 none 0).toArray) w:=by
 have hbl:(bv r.K).length=96:=by simp [hk]
 have hz:(bv (List.replicate 96 0)).length=96:=by simp
 apply run_build
 rw [Fa]
 show Instr.fill _ _ [(0,_),(1,_),(2,_),(3,_)]=_
 rw [aA (off:=0) (sz:=1) rfl rfl (by simp [Nc])]
 rw [aA (off:=1) (sz:=1) rfl rfl (by simp [Nc,Value.cells])]
 show Instr.fill _ ([pV gd,pV gi]++(bv (List.replicate 96 0)++(gQ++ [Value.slice none 0 0,Value.bool false]))).toArray [(2,_),(3,_)]=_
 rw [aA (off:=2) (sz:=96) rfl (by simp [Value.cells,hk]) (by simp [gQ])]
 have e1:([pV gd,pV gi]++(bv (List.replicate 96 0)++(gQ++ [Value.slice none 0 0,Value.bool false]))).toArray.toList.take 2++(Value.agg (bv r.K).toArray).cells.toList++([pV gd,pV gi]++(bv (List.replicate 96 0)++(gQ++ [Value.slice none 0 0,Value.bool false]))).toArray.toList.drop (2+96)=fK gd gi ⟨r.K,CQ,[],false⟩ none 0 none 0:=by
   show [pV gd,pV gi]++bv r.K++(bv (List.replicate 96 0)++(gQ++ [Value.slice none 0 0,Value.bool false])).drop 96=_
   rw [List.drop_append_of_le_length (by simp),List.drop_of_length_le (by simp),List.nil_append,List.append_assoc]
   rfl
 rw [e1,aA (off:=98) (sz:=9) rfl rfl (by rw [List.size_toArray,rZ (r:=⟨r.K,CQ,[],false⟩) hk];decide)]
 have e2:=vR (gd:=gd) (gi:=gi) (r:=⟨r.K,CQ,[],false⟩) hk none 0 none 0 r.C none 0 none 0 r.S
 rw [hs,hp] at e2
 have e3:(⟨r.K,r.C,r.S,false⟩:gZ)=r:=by rw [←hd]
 have e2:(fK gd gi ⟨r.K,CQ,[],false⟩ none 0 none 0).take 98++bV r.C none 0 0 none 0 0++(fK gd gi ⟨r.K,CQ,[],false⟩ none 0 none 0).drop 107=fK gd gi r none 0 none 0:=by
   rw [←e3];exact e2
 show Instr.fill _ ((fK gd gi ⟨r.K,CQ,[],false⟩ none 0 none 0).take 98++bV r.C none 0 0 none 0 0++(fK gd gi ⟨r.K,CQ,[],false⟩ none 0 none 0).drop 107).toArray []=_
 rw [e2]
 rfl

theorem Ee {w:World} {b o c n:Nat} {l:List UInt8} {T:TypeId} (hA:(isAgg T).run Tryz.prog w=.ok true w) (hS:(sizeOf T).run Tryz.prog w=.ok n w) (h:RdB w (some ⟨b,o,none⟩) n c l) (hn:0<n):(Instr.loadAt T (.pointer (some ⟨b,o,none⟩))).run Tryz.prog w=.ok (.agg (bv l).toArray) w:=by
 have hl:=h.bh
 rcases h.cells with h0 | ⟨b',o',e,hr⟩
 · have:(bv l).length=0:=by rw [h0];rfl
   simp at this;subst this;simp at hl;omega
 · simp only [Option.some.injEq,Addr.mk.injEq,and_true] at e
   obtain ⟨rfl,rfl⟩:=e
   have hrange:w.rangeAt b o (bv l):=fun k v hk=>hr k v hk
   have:=cA (P:=Tryz.prog) hrange
   rw [cL,hl] at this
   simp [Instr.loadAt,Instr.sureAddr,loadVar,hA,hS,this]

theorem mO {s:gJ} (h:bz s=true):aH ⟨1,0,s,[],[]⟩=true:=by
 unfold aH jL
 simp [h,FB,oo]
noncomputable def jy (pw salt ms:List UInt8) (s:gJ) (m:af):af×Option Int:=
 aP (aM m cO) fun m=>aP (aO m cO [iD pw salt ms]) fun m=>aP (cV m cO) fun m=>aW (bw ms) ⟨1,0,s,[],[]⟩ m

theorem plZ (w:World):(zeroValue 142).run Tryz.prog w=.ok (.agg [Value.pointer none].toArray) w:=Tryz.zeroValue142 w
section
variable {w0 w w':World} {N:List Res} {gd:Nat} {ps:List Nat} {m:af}

set_option maxHeartbeats 4000000 in
theorem z6 (pw:ByteArray) (a2:Option Addr) (n2 c2:Nat) (seed:List UInt8) (s:gJ) (h:ah w0 [] w gd ps m N) (hd:m.down=false) (hnm:cw m=[]) (hK:cR w0) (hT:jr w0) (hE:rV w0) (hsd:RdB w a2 n2 c2 seed) (hp:s.poly<W64) (hb:B63 30 m):
   Calls Tryz.prog 54 #[pV gd,.string pw,.slice a2 n2 c2,.agg (cq s).toArray] w fun e w'=>
     (bM pw=false∨seed.length≠48→e=.returned (.tuple #[.pointer none,bk (some 28)])∧ah w0 [] w' gd ps m N)∧
     (¬(bM pw=false∨seed.length≠48)→bz s=false→e=.returned (.tuple #[.pointer none,bk (some 11)])∧ah w0 [] w' gd ps m N)∧
     (¬(bM pw=false∨seed.length≠48)→bz s=true→
       (∀y,(jy (bG pw) (seed.take 16) (seed.drop 16) s m).2=some y→e=.returned (.tuple #[.pointer none,bk (some y)])∧∃ps',ah w0 [] w' gd ps' (jy (bG pw) (seed.take 16) (seed.drop 16) s m).1 N)∧
       ((jy (bG pw) (seed.take 16) (seed.drop 16) s m).2=none→∃gr,e=.returned (.tuple #[pV gr,bk none])∧G6 w0 w' gd gr (jy (bG pw) (seed.take 16) (seed.drop 16) s m).1 ⟨bw (seed.drop 16),⟨1,0,s,[],[]⟩,[],false⟩ N)):=by
 obtain ⟨mI,hI⟩:=eI
 have hsl:=hsd.bh
 apply Ba
 obtain ⟨g7,w1,r1,k1⟩:=(St.start w).b7 (P:=Tryz.prog) 44 (cq s)
 have k1:St w [] w1 [.arr g7 44 (cq s)]:=k1
 have h1:=h.same k1.chg
 refine ⟨g7,w1,r1,(lS pw w1).mono ?_⟩
 rintro e w2 ⟨rfl,rfl⟩
 refine ⟨_,rfl,fun hbad=>?_,fun hgood=>?_⟩
 · have hc:bM pw=false∨seed.length≠48:=by
     simp only [Bool.or_eq_true,Bool.not_eq_true',bne_iff_ne,ne_eq] at hbad
     rcases hbad with hb | hb
     · exact .inl hb
     · exact .inr (by omega)
   exact ⟨fun _=>⟨rfl,h1⟩,fun hn=>absurd hc hn,fun hn=>absurd hc hn⟩
 have hc:¬(bM pw=false∨seed.length≠48):=by
   simp only [Bool.or_eq_false_iff,Bool.not_eq_false',bne_eq_false_iff_eq] at hgood
   rintro (h | h)
   · rw [h] at hgood;cases hgood.1
   · omega
 have hs48:seed.length=48:=by
   rcases Nat.decEq seed.length 48 with h | h
   · exact absurd (.inr h) hc
   · exact h
 refine ⟨_,k1.ldA (i:=0) (l:=cq s) rfl (Tryz.isAgg44 _) (Tryz.sizeOf44 _) rfl,(ny s hp w2).mono ?_⟩
 rintro e w3 ⟨rfl,c3⟩
 have k3:=k1.same c3
 have h3:=h.same k3.chg
 refine ⟨_,rfl,_,au hI _ _ _,fun hbad=>?_,fun hgood2=>?_⟩
 · have hg:bz s=false:=by
     cases hg:bz s with
     | false=>rfl
     | true=>rw [hg] at hbad;simp at hbad
   rw [hg]
   exact ⟨fun hx=>absurd hx hc,fun _ _=>⟨rfl,h3⟩,fun _ hx=>by cases hx⟩
 have hg:bz s=true:=by
   cases hg:bz s with
   | true=>rfl
   | false=>rw [hg] at hgood2;simp at hgood2
 obtain ⟨g11,w4,r4,k4⟩:=k3.az plZ
 obtain ⟨w5,r5,k5⟩:=k4.stA (i:=1) (v:=[pV gd]) rfl (plS _) rfl rfl (by simp [pV,Value.oneCell'])
 have k5:St w [] w5 [.arr g7 44 (cq s),.arr g11 142 [pV gd]]:=k5
 have h5:=h.same k5.chg
 refine ⟨_,vG gd w3,g11,w4,r4,w5,r5,_,_,k5.ldL (i:=1) (o:=0) rfl (pdA _) rfl rfl,(uz h5).mono ?_⟩
 rintro e w6 ⟨rfl,rfl⟩
 refine ⟨_,rfl,fun hx=>(by rw [hd] at hx;cases hx),fun _=>⟨_,k5.ldA (i:=1) (l:=[pV gd]) rfl (plA _) (plS _) rfl,(mo h5 hT hE).mono ?_⟩⟩
 rintro e w7 ⟨rfl,c7⟩
 have k7:=k5.same c7
 have h7:=h.same k7.chg
 refine ⟨_,rfl,fun hx=>(by rw [hnm] at hx;cases hx),fun _=>⟨_,_,k7.ldL (i:=1) (o:=0) rfl (pdA _) rfl rfl,(mz h7).mono ?_⟩⟩
 rintro e w8 ⟨la,lc,rfl,f8⟩
 have k8:=k7.same f8.chg
 have h8:=h.same k8.chg
 refine ⟨_,_,_,rfl,fun x w'=>x=0∧w'=w8,fun _ _=>0,⟨rfl,rfl⟩,?_⟩
 rintro x w9 ⟨rfl,rfl⟩
 refine ⟨fun hx=>(by rw [hnm] at hx;simp at hx),fun _=>⟨by omega,by omega,by have:=hsd.le;omega,fun ta hta=>?_⟩⟩
 have hms:RdB w9 ta (n2-16) (c2-16) (seed.drop 16):=E5 (hsd.an k8.chg) hta (by omega)
 have hn32:n2-16=32:=by omega
 rw [hn32] at hms ⊢
 have hml:(seed.drop 16).length=32:=by simp [hs48]
 obtain ⟨b,o,rfl⟩:∃b o,ta=some ⟨b,o,none⟩:=by
   rcases hms.cells with h0 | ⟨b,o,e,_⟩
   · have h00:(bv (seed.drop 16)).length=0:=by rw [h0];rfl
     rw [cL] at h00;omega
   · exact ⟨b,o,e⟩
 obtain ⟨g15,w11,r11,k11⟩:=k8.az dP
 obtain ⟨w12,r12,k12⟩:=k11.stA (i:=2) (v:=bv (seed.drop 16)) rfl (cz _) (by simp) (by simp [hs48]) (aG _)
 have k12:St w [] w12 [.arr g7 44 (cq s),.arr g11 142 [pV gd],.arr g15 39 (bv (seed.drop 16))]:=k12
 refine ⟨_,run_arrayAt _ 39 _ 32 _ 32 _ Tryz.underlying39 (Nat.le_refl _),_,Ee (jv _) (cz _) hms (by decide),g15,w11,r11,w12,r12,?_⟩
 have hsl16:(seed.take 16).length=16:=by simp [hs48]
 obtain ⟨b2,o2,rfl⟩:∃b o,a2=some ⟨b,o,none⟩:=by
   rcases hsd.cells with h0 | ⟨b,o,e,_⟩
   · have h00:(bv seed).length=0:=by rw [h0];rfl
     rw [cL] at h00;omega
   · exact ⟨b,o,e⟩
 have hsalt:∀ {w':World},Chg [] w w'→RdB w' (some ⟨b2,o2,none⟩) 16 c2 (seed.take 16):=fun hc'=>ir (hsd.an hc') (by omega)
 have hlk:Cp (bG pw)=none:=by
   have h1:bM pw=true:=by
     cases ho:bM pw with
     | true=>rfl
     | false=>exact absurd (.inl ho) hc
   have h2:mS (bG pw)=true:=by
     unfold bM at h1
     simp only [decide_eq_true_eq] at h1
     unfold mS
     have:(bG pw).length=pw.size:=by simp [bG]
     rw [decide_eq_true_eq,this]
     exact h1
   rw [Cp,h2];rfl
 have k12d:=k12.drew
 refine ⟨fun w'=>∃M':List Res,St w [] w' (.arr g7 44 (cq s):: .arr g11 142 [pV gd]:: .arr g15 39 (bv (seed.drop 16))::M'),⟨_,k12d⟩,by omega,by have:=hsd.le;omega,_,fun w' _=>run_arrayAt _ 209 _ 16 _ 16 _ Tryz.underlying209 (Nat.le_refl _),_,fun w' ⟨_,k⟩=>Ee (Tryz.isAgg209 _) (Tryz.sizeOf209 _) (hsalt k.chg) (by decide),_,fun w' ⟨_,k⟩=>k.ldA (i:=2) (l:=bv (seed.drop 16)) rfl (jv _) (cz _) (by simp [hs48]),
   (IK pw (seed.take 16) (seed.drop 16) _ (hK.an (h.chg.trans k12d.chg)) hsl16 hml).mono ?_⟩
 rintro e w13 ⟨fa,fn,fc,rfl,f13⟩
 have k13:=f13.add k12d
 refine ⟨_,_,_,_,rfl,_,fun _ h=>h,⟨_,k13⟩,_,au hI _ _ _,fun hbad=>(by rw [hlk] at hbad;cases hbad),fun _=>?_⟩
 have k13d:=k13.drew
 obtain ⟨r,hr⟩:∃r:gZ,(⟨bw (seed.drop 16),⟨1,0,s,[],[]⟩,[],false⟩:gZ)=r:=⟨_,rfl⟩
 have kl:r.K.length=96:=by rw [←hr];exact we _
 refine ⟨fun w'=>∃M':List Res,St w [] w' (.arr g7 44 (cq s):: .arr g11 142 [pV gd]:: .arr g15 39 (bv (seed.drop 16))::M'),⟨_,k13d⟩,_,fun w' ⟨_,k⟩=>k.ldA (i:=1) (l:=[pV gd]) rfl (plA _) (plS _) rfl,_,fun w' ⟨_,k⟩=>k.ldA (i:=2) (l:=bv (seed.drop 16)) rfl (jv _) (cz _) (by simp [hs48]),_,fun w' ⟨_,k⟩=>k.ldA (i:=0) (l:=cq s) rfl (Tryz.isAgg44 _) (Tryz.sizeOf44 _) rfl,_,fun w' _=>Dr s w',(JN _).mono ?_⟩
 rintro e w14 ⟨gi,gm,rfl,es,ck,M,hE1,hM1,f14⟩
 have k14:=Sx.St.cC (N:=[]) (by rw [List.append_nil];exact k13d) f14
 refine ⟨_,_,rfl,_,fun _ h=>h,⟨_,k14⟩,(nq (seed.drop 16) w14 hml (hK.an (h.chg.trans k14.chg))).mono ?_⟩
 rintro e w15 ⟨rfl,c15⟩
 have k15:=k14.same c15
 obtain ⟨g90,w16,r16,k16⟩:=k15.b7 (P:=Tryz.prog) 145 (fK gd gi r none 0 none 0)
 have hbuild:∀w',(Instr.build 145 #[(0,plV gd),(1,pV gi),(2,.agg (bv (bw (seed.drop 16))).toArray),(3,.agg (bV ⟨1,0,s,[],[]⟩ none 0 0 none 0 0).toArray)]).run Tryz.prog w'=.ok (.agg (fK gd gi r none 0 none 0).toArray) w':=fun w'=>by
   have:=Dd gd gi r kl (by rw [←hr]) (by rw [←hr]) (by rw [←hr]) w'
   rw [←hr] at this ⊢
   exact this
 refine ⟨_,rfl,_,fun _ h=>h,⟨_,k15⟩,_,fun w' _=>hbuild w',g90,w16,r16,_,fun _ h=>h,⟨_,k16⟩,?_⟩
 obtain ⟨file,hfile⟩:∃file,iD (bG pw) (seed.take 16) (seed.drop 16)=file:=⟨_,rfl⟩
 obtain ⟨Kt,hKt⟩:∃Kt:List Res,[.arr g7 44 (cq s),.arr g11 142 [pV gd],.arr g15 39 (bv (seed.drop 16)),.row 5 1 (.slice fa fn fc) fn (bv file),.arr gi 272 [.map (some gm)],.blk gm (.map es ck),.arr g90 145 (fK gd gi r none 0 none 0),lB r.C none 0,lF r.C none 0]=Kt:=⟨_,rfl⟩
 have k17:St w [] w16 Kt:=by
   have:=(k16.b8 89 36).b8 91 3
   rw [hfile] at this
   rw [←hKt,←hr] at*
   exact this
 have h17:=h.dh k17
 obtain ⟨EM,hEM⟩:∃EM,jy (bG pw) (seed.take 16) (seed.drop 16) s m=EM:=⟨_,rfl⟩
 have hEM0:EM=aP (aM m cO) fun m=>aP (aO m cO [file]) fun m=>aP (cV m cO) fun m=>aW (bw (seed.drop 16)) ⟨1,0,s,[],[]⟩ m:=by rw [←hEM,←hfile];rfl
 rw [hEM,hr]
 have ldD:∀ {w':World} {ps':List Nat} {m':af},ah w0 [] w' gd ps' m' (N++Kt)→(Instr.loadAt 51 (.pointer (some ⟨g11,0,none⟩))).run Tryz.prog w'=.ok (pV gd) w':=fun h'=>h'.top.ldL (i:=1) (o:=0) (l:=[pV gd]) (T':=142) (by rw [←hKt];rfl) (pdA _) rfl rfl
 have errR:∀ {w':World} {ps':List Nat} {m':af} (y:Int),ah w0 [] w' gd ps' m' (N++Kt)→EM=(m',some y)→
     (bM pw=false∨seed.length≠48→Ending.returned (.tuple #[.pointer none,bk (some y)])=.returned (.tuple #[.pointer none,bk (some 28)])∧ah w0 [] w' gd ps m N)∧
     (¬(bM pw=false∨seed.length≠48)→bz s=false→Ending.returned (.tuple #[.pointer none,bk (some y)])=.returned (.tuple #[.pointer none,bk (some 11)])∧ah w0 [] w' gd ps m N)∧
     (¬(bM pw=false∨seed.length≠48)→bz s=true→
       (∀y',EM.2=some y'→Ending.returned (.tuple #[.pointer none,bk (some y)])=.returned (.tuple #[.pointer none,bk (some y')])∧∃ps',ah w0 [] w' gd ps' EM.1 N)∧
       (EM.2=none→∃gr,Ending.returned (.tuple #[.pointer none,bk (some y)])=.returned (.tuple #[pV gr,bk none])∧G6 w0 w' gd gr EM.1 r N)):=fun y h' hE'=>
   ⟨fun hx=>absurd hx hc,fun _ hx=>(by rw [hg] at hx;cases hx),fun _ _=>⟨fun y' hy'=>by
     rw [hE'] at hy' ⊢
     obtain rfl:y=y':=by simpa using hy'
     exact ⟨rfl,_,h'.cut⟩,fun hn=>by rw [hE'] at hn;cases hn⟩⟩
 refine ⟨_,_,ldD h17,(oV cO h17 hb.s hb.c).mono ?_⟩
 rintro e w17 ⟨rfl,ps1,h18⟩
 obtain ⟨m1,hm1⟩:∃m1,(aM m cO).1=m1:=⟨_,rfl⟩
 have hb1:B63 29 m1:=by rw [←hm1];exact B63.of (j:=1) hb (rT m cO)
 rw [hm1] at h18
 refine ⟨_,rfl,_,au hI _ _ _,fun hbad=>?_,fun hgood3=>?_⟩
 · obtain ⟨y,hy⟩:=Option.isSome_iff_exists.1 hbad
   rw [hy]
   exact errR y h18 (by rw [hEM0,aP,hy,hm1])
 have ho1:(aM m cO).2=none:=by simpa using hgood3
 have hEM1:EM=aP (aO m1 cO [file]) fun m=>aP (cV m cO) fun m=>aW (bw (seed.drop 16)) ⟨1,0,s,[],[]⟩ m:=by rw [hEM0,aP,ho1,hm1]
 obtain ⟨gl,w18,r18,k18⟩:=(St.start w17).lit bbT [.slice fa fn fc] (by simp [Value.oneCell']) (by simp)
 refine ⟨_,_,ldD h18,_,_,_,w18,r18,(oA cO _ 1 1 [.slice fa fn fc] [file] (h18.dh k18) (fun {w3 ps3 m3} h3=>⟨h3.top.rd (i:=0) rfl,dU (ah.top (h3.cut) |>.rd (i:=3) (by rw [←hKt];rfl))⟩) hb1.s (by decide)).mono ?_⟩
 rintro e w19 ⟨rfl,h19⟩
 have h19:=h19.cut
 obtain ⟨m2,hm2⟩:∃m2,(aO m1 cO [file]).1=m2:=⟨_,rfl⟩
 have hb2:B63 28 m2:=by rw [←hm2];exact B63.of (j:=1) hb1 (rI m1 cO [file])
 rw [hm2] at h19
 refine ⟨_,rfl,_,au hI _ _ _,fun hbad=>?_,fun hgood4=>?_⟩
 · obtain ⟨y,hy⟩:=Option.isSome_iff_exists.1 hbad
   rw [hy]
   exact errR y h19 (by rw [hEM1,aP,hy,hm2])
 have ho2:(aO m1 cO [file]).2=none:=by simpa using hgood4
 have hEM2:EM=aP (cV m2 cO) fun m=>aW (bw (seed.drop 16)) ⟨1,0,s,[],[]⟩ m:=by rw [hEM1,aP,ho2,hm2]
 refine ⟨_,_,ldD h19,(uw cO h19 hb2.s).mono ?_⟩
 rintro e w20 ⟨rfl,h20⟩
 obtain ⟨m3,hm3⟩:∃m3,(cV m2 cO).1=m3:=⟨_,rfl⟩
 have hb3:B63 27 m3:=by rw [←hm3];exact B63.of (j:=1) hb2 (yY m2 cO)
 rw [hm3] at h20
 refine ⟨_,rfl,_,au hI _ _ _,fun hbad=>?_,fun hgood5=>?_⟩
 · obtain ⟨y,hy⟩:=Option.isSome_iff_exists.1 hbad
   rw [hy]
   exact errR y h20 (by rw [hEM2,aP,hy,hm3])
 have ho3:(cV m2 cO).2=none:=by simpa using hgood5
 have hEM3:EM=aW (bw (seed.drop 16)) ⟨1,0,s,[],[]⟩ m3:=by rw [hEM2,aP,ho3,hm3]
 have hEM4:EM=aW r.K r.C m3:=by rw [hEM3,←hr]
 have hrs:r.C.snaps=[]:=by rw [←hr]
 have hrp:r.C.aj=[]:=by rw [←hr]
 have hpo:r.C.set.poly<W64:=by rw [←hr];exact hp
 have hck:aH r.C=true:=by rw [←hr];exact mO hg
 have hco:gE r.C:=kH hck ⟨hpo,by rw [hrs];simp,by rw [hrp];simp⟩
 have hnames:∀s∈r.C.snaps,s.name.length≤4611686018427387904:=by rw [hrs];simp
 have h20d:=h20.same (Chg.drew [] w20)
 refine ⟨fun w'=>∃ps' m',ah w0 [] w' gd ps' m' (N++Kt),⟨_,_,h20d⟩,_,fun w' ⟨_,_,h'⟩=>h'.top.ldP (i:=6) (o:=2) (l:=fK gd gi r none 0 none 0) (T':=145) (by rw [←hKt];rfl) (tV _) (qF _) (jW kl _ _ _ _) (by simp [kl]),_,fun w' ⟨_,_,h'⟩=>h'.top.ldP (i:=6) (o:=98) (l:=fK gd gi r none 0 none 0) (T':=145) (by rw [←hKt];rfl) (jM _) (fI _) (yp kl _ _ _ _) rfl,
   (vF r.K kl r.C none _ 0 none _ 0 h20d hK hT ⟨hpo,⟨h20d.top.rd (i:=7) (by rw [←hKt];rfl),fun x _=>iX x⟩,⟨h20d.top.rd (i:=8) (by rw [←hKt];rfl),fun _ _=>rfl⟩,hnames⟩ (fun _=>hco) ⟨by have:=hb3.1;omega,by have:=hb3.2;omega⟩).mono ?_⟩
 rintro e w21 ⟨rfl,ps5,h21⟩
 rw [←hEM4] at h21 ⊢
 refine ⟨_,rfl,_,fun _ h=>h,⟨_,_,h21⟩,_,au hI _ _ _,fun hbad=>?_,fun hgood6=>?_⟩
 · obtain ⟨y,hy⟩:=Option.isSome_iff_exists.1 hbad
   have hx:=errR y h21 (Prod.ext rfl hy)
   rw [hy] at hx ⊢
   exact hx
 have hn:EM.2=none:=by simpa using hgood6
 refine ⟨fun hx=>absurd hx hc,fun _ hx=>(by rw [hg] at hx;cases hx),fun _ _=>⟨fun y hy=>(by rw [hn] at hy;cases hy),fun _=>⟨g90,rfl,⟨ps5,gi,gm,es,ck,M,none,0,none,0⟩,⟨hE1,by rw [←hr];exact hM1,kl,hpo,hck,hco,hnames,by rw [hrs];decide,by rw [hrp];decide,by rw [←hr];simp⟩,?_⟩⟩⟩
 have h22:ah w0 [] w21 gd ps5 EM.1 (N++([.arr gi 272 [.map (some gm)],.blk gm (.map es ck)]++ [.arr g90 145 (fK gd gi r none 0 none 0),lB r.C none 0,lF r.C none 0])):=by
   refine h21.wC (List.Sublist.append_left ?_ _)
   rw [←hKt]
   exact List.Sublist.cons _ (List.Sublist.cons _ (List.Sublist.cons _ (List.Sublist.cons _ (List.Sublist.refl _))))
 exact h22.yw (List.Perm.append_left N List.perm_append_comm)
end

end Go.Proofs.YtpmhjnhgpplmnaaGreatDoor
end

section
namespace Go.Proofs.YtpmhjnhgpplmnaaGreatDoor
open Go Sx
set_option maxRecDepth 8000

section
variable {w0 w w':World} {N:List Res} {gd gr:Nat} {m:af} {r:gZ} {q:wD}
theorem H7 (ok:ROk r q) (h:ah w0 [] w gd q.ps m (N++q.T gd gr r)) (hb:r.S.length≤1000000):Calls Tryz.prog 43 #[pV gr] w fun e w'=>∃(a:Option Addr) (n c:Nat) (q':wD),e=.returned (.slice a n c)∧q'.ps=q.ps∧ROk r q'∧ah w0 [] w' gd q.ps m ((.row 100 35 (.slice a n c) n (r.S.flatMap aC)::N)++q'.T gd gr r):=by
 apply tq
 refine ⟨_,_,h.top.ldL (i:=0) (o:=1) rfl (LY _) rfl rfl,(IA (w0:=w) (X:=[q.gi,q.gm]) (N:=[]) q.gi q.gm r.S (gv.self (ok.idx h)) hb).mono ?_⟩
 rintro e w1 ⟨a,n,c,rfl,es,ck,M,hE,hM,k⟩
 have h1:ah w0 [] w gd q.ps m ((N++ [.arr gr 145 (fK gd q.gi r q.sa q.sc q.pa q.pc),lB r.C q.sa q.sc,lF r.C q.pa q.pc])++ixR q.gi q.gm q.es q.ck):=by
   rw [List.append_assoc];exact h
 have h2:=h1.qP k
 refine ⟨_,_,_,rfl,a,n,c, { q with es:=es,ck:=ck,M:=M },rfl,rfl,⟨hE,hM,ok.kl,ok.poly,ok.chk,ok.cok,ok.names,ok.sn,ok.pn,ok.good⟩,h2.yw ?_⟩
 have e1:∀(A:List Res) (x y z:Res),(A++ [x,y,z]).Perm (z::(A++ [x,y])):=fun A x y z=>by
   have:A++ [x,y,z]=(A++ [x,y])++ [z]:=by simp
   rw [this]
   exact List.perm_append_comm
 refine (e1 _ _ _ _).trans (List.Perm.cons _ ?_)
 rw [List.append_assoc]
 exact List.Perm.refl _
end

end Go.Proofs.YtpmhjnhgpplmnaaGreatDoor
end

section
namespace Go.Proofs.YtpmhjnhgpplmnaaGreatDoor
open Go Sx
set_option maxRecDepth 8000

section
variable (w:World)
theorem Hf:Calls Tryz.prog 126 #[.pointer none] w fun e w'=>e=.returned (bk (some 28))∧w'=w:=by
 apply mZ
 exact ⟨rfl,rfl⟩
theorem Ou (id:List UInt8):Calls Tryz.prog 51 #[.pointer none,.agg (bv id).toArray] w fun e w'=>e=.returned (.tuple #[.slice none 0 0,bk (some 28)])∧Chg [] w w':=by
 obtain ⟨mI,hI⟩:=eI
 apply oP
 obtain ⟨g3,w1,r1,k1⟩:=(St.start w).b7 (P:=Tryz.prog) 87 (bv id)
 refine ⟨g3,w1,r1,(Hf w1).mono ?_⟩
 rintro e w2 ⟨rfl,rfl⟩
 exact ⟨_,rfl,_,au hI (some 28) _ _,fun _=>⟨rfl,k1.chg⟩,fun h=>by cases h⟩
theorem Lx (a1:Option Addr) (n1 c1:Nat) (a2:Option Addr) (n2 c2:Nat) (a3:Option Addr) (n3 c3:Nat):Calls Tryz.prog 49 #[.pointer none,.slice a1 n1 c1,.slice a2 n2 c2,.slice a3 n3 c3] w fun e w'=>e=.returned (bk (some 28))∧Chg [] w w':=by
 obtain ⟨mI,hI⟩:=eI
 apply mN
 obtain ⟨g7,w1,r1,k1⟩:=(St.start w).box (P:=Tryz.prog) 29 (.slice a3 n3 c3)
 refine ⟨g7,w1,r1,(Hf w1).mono ?_⟩
 rintro e w2 ⟨rfl,rfl⟩
 exact ⟨_,rfl,_,au hI (some 28) _ _,fun _=>⟨rfl,k1.chg⟩,fun h=>by cases h⟩
theorem Oc (id:List UInt8):Calls Tryz.prog 52 #[.pointer none,.agg (bv id).toArray] w fun e w'=>e=.returned (.bool false)∧Chg [] w w':=by
 apply nX
 obtain ⟨g3,w1,r1,k1⟩:=(St.start w).b7 (P:=Tryz.prog) 87 (bv id)
 exact ⟨g3,w1,r1,rfl,k1.chg⟩
theorem Mw:Calls Tryz.prog 43 #[.pointer none] w fun e w'=>e=.returned (.slice none 0 0)∧w'=w:=by
 apply nH
 exact ⟨rfl,rfl⟩
theorem HQ:Calls Tryz.prog 22 #[.pointer none] w fun e w'=>e=.returned (.slice none 0 0)∧w'=w:=by
 apply lG
 exact ⟨rfl,rfl⟩
theorem vH:(Instr.build 41 #[]).run Tryz.prog w=.ok (.agg (bv (List.replicate 96 0)).toArray) w:=by
 apply run_build
 kernel_rfl
theorem AE:(Instr.build 87 #[]).run Tryz.prog w=.ok (.agg (bv (List.replicate 32 0)).toArray) w:=by
 apply run_build
 kernel_rfl
theorem MQ:Calls Tryz.prog 53 #[.pointer none] w fun e w'=>e=.returned (.agg (bv (List.replicate 96 0)).toArray)∧Chg [] w w':=by
 apply nQ
 obtain ⟨g2,w1,r1,k1⟩:=(St.start w).az kyZ
 have k1:St w [] w1 [.arr g2 41 (bv (List.replicate 96 0))]:=k1
 obtain ⟨w2,r2,k2⟩:=k1.stA (i:=0) (v:=bv (List.replicate 96 0)) rfl (qF _) (by simp) (by simp) (aG _)
 exact ⟨g2,w1,r1,_,vH w1,w2,r2,_,k2.bF (i:=0) (l:=bv (List.replicate 96 0)) rfl (tV _) (qF _) (by simp),rfl,k2.chg⟩
theorem KZ:∀v∈gQ,v.oneCell'=true:=by decide
theorem Hu:Calls Tryz.prog 16 #[.pointer none] w fun e w'=>e=.returned (.agg gQ.toArray)∧Chg [] w w':=by
 apply lN
 obtain ⟨g2,w1,r1,k1⟩:=(St.start w).az AF
 have k1:St w [] w1 [.arr g2 47 gQ]:=k1
 obtain ⟨w2,r2,k2⟩:=k1.stA (i:=0) (v:=gQ) rfl (fI _) rfl rfl KZ
 exact ⟨g2,w1,r1,_,EP w1,w2,r2,_,k2.bF (i:=0) (l:=gQ) rfl (jM _) (fI _) rfl,rfl,k2.chg⟩
theorem MN (pw:ByteArray) (a:Option Addr) (n c:Nat) (l:List Value):Calls Tryz.prog 54 #[.pointer none,.string pw,.slice a n c,.agg l.toArray] w fun e w'=>e=.returned (.tuple #[.pointer none,bk (some 28)])∧Chg [] w w':=by
 apply um
 obtain ⟨g7,w1,r1,k1⟩:=(St.start w).b7 (P:=Tryz.prog) 44 l
 exact ⟨g7,w1,r1,rfl,k1.chg⟩
theorem Nr (pw:ByteArray):Calls Tryz.prog 21 #[.pointer none,.string pw] w fun e w'=>e=.returned (.tuple #[.pointer none,bk (some 28)])∧w'=w:=by
 apply uv
 exact ⟨rfl,rfl⟩
end

end Go.Proofs.YtpmhjnhgpplmnaaGreatDoor
end

section
namespace Go.Proofs.YtpmhjnhgpplmnaaGreatDoor
open Go Sx
set_option maxRecDepth 8000

def La (pw:List UInt8) (m:af):Option Int:=if vk m cO then eu pw (jO m cO) else if FF (cw m) then some 10 else some 21
section
variable {w0 w w':World} {N:List Res} {gd:Nat} {ps:List Nat} {m:af}

theorem ES (pw:ByteArray) {e:Int} (h:ah w0 [] w gd ps m N) (hd:m.down=false) (hK:cR w0) (hT:jr w0) (hE:rV w0) (he:La (bG pw) m=some e):
   Calls Tryz.prog 83 #[plV gd,.string pw] w fun r w'=>r=.returned (.tuple #[.pointer none,bk (some e)])∧Chg [] w w':=by
 obtain ⟨mI,hI⟩:=eI
 apply yG
 obtain ⟨g2,w1,r1,k1⟩:=(St.start w).b7 (P:=Tryz.prog) 142 [pV gd]
 have k1:St w [] w1 [.arr g2 142 [pV gd]]:=k1
 refine ⟨g2,w1,r1,_,k1.ldA (i:=0) (l:=[pV gd]) rfl (plA _) (plS _) rfl,(yd cO (h.same k1.chg)).mono ?_⟩
 rintro e1 w2 ⟨rfl,c2⟩
 have k2:=k1.same c2
 have h2:=h.same k2.chg
 unfold La at he
 refine ⟨_,rfl,fun hno=>?_,fun hyes=>?_⟩
 · have hno:vk m cO=false:=by simpa using hno
   rw [hno] at he
   refine ⟨_,k2.ldA (i:=0) (l:=[pV gd]) rfl (plA _) (plS _) rfl,(mo h2 hT hE).mono ?_⟩
   rintro e1 w3 ⟨rfl,c3⟩
   refine ⟨_,rfl,fun hg=>?_,fun hg=>?_⟩
   · rw [hg] at he
     obtain rfl:(10:Int)=e:=by simpa using he
     exact ⟨rfl,k2.chg.trans c3⟩
   · rw [hg] at he
     obtain rfl:(21:Int)=e:=by simpa using he
     exact ⟨rfl,k2.chg.trans c3⟩
 · have hyes:vk m cO=true:=by simpa using hyes
   rw [hyes] at he
   have he:eu (bG pw) (jO m cO)=some e:=he
   have hf:bX m cO=none:=I6 h.wf hd (by unfold vk at hyes;rwa [List.contains_iff_mem] at hyes)
   refine ⟨_,_,k2.ldL (i:=0) (o:=0) (l:=[pV gd]) rfl (pdA _) rfl rfl,(Aq cO h2).mono ?_⟩
   rintro e1 w4 ⟨fa,fn,fc,rfl,f4⟩
   have k4:=f4.add k2
   rw [hf]
   refine ⟨_,_,_,_,rfl,_,au hI none _ _,fun h=>(by cases h),fun _=>(Df pw fa fn fc _ w4 (hK.an (h.chg.trans k4.chg)) f4.rdB).mono ?_⟩
   rintro e1 w5 ⟨rfl,c5⟩
   obtain ⟨g8,w6,r6,k6⟩:=(k4.same c5).az dP
   have hul:=pG (bG pw) (jO m cO)
   obtain ⟨w7,r7,k7⟩:=k6.stA (i:=2) (v:=bv (fG (bG pw) (jO m cO))) rfl (cz _) (by simp) (by simp [hul]) (aG _)
   refine ⟨_,_,rfl,g8,w6,r6,w7,r7,_,au hI _ _ _,fun _=>?_,fun h=>?_⟩
   · rw [he];exact ⟨rfl,k7.chg⟩
   · rw [he] at h;cases h

end

end Go.Proofs.YtpmhjnhgpplmnaaGreatDoor
end

section
namespace Go.Proofs.YtpmhjnhgpplmnaaGreatDoor
open Go Sx
set_option maxRecDepth 8000

structure Calm (m:af):Prop where
 d:m.down=false
 a:m.arm=none
 f:m.bW=[]
structure Iw (m m':af):Prop where
 size:m'.size=m.size
 files:m'.files=m.files
 now:m'.now=m.now
 syn:m'.syn=m.syn
 chs:m'.chs=m.chs
structure Eff (m:af) (f:af→af) (r:af×Option Int):Prop where
 ok:r.2=none→Iw (f m) r.1∧r.1.down=false
 no:r.2≠none→Iw m r.1
 er:r.2=none∨(r.2=some 2∧r.1.down=false)∨(r.2=some 1∧r.1.down=true)
 calm:Calm m→r.2=none∧Calm r.1∧r.1.steps=m.steps+1
def A7 (f:af→af):Prop:=∀(m:af) (s:Nat) (d:Bool) (a:Option Nat) (l:List Nat),f { m with steps:=s,down:=d,arm:=a,bW:=l } = { f m with steps:=s,down:=d,arm:=a,bW:=l }
theorem jX (m:af) (f:af→af) (hd:m.down=false) (hf:A7 f):Eff m f (aU m f):=by
 by_cases ha:m.arm=some 0
 · have e:aU m f=({ m with down:=true },some 1):=by unfold aU bp;rw [if_pos ha]
   rw [e]
   exact ⟨fun h=>by simp at h,fun _=>⟨rfl,rfl,rfl,rfl,rfl⟩,.inr (.inr ⟨rfl,rfl⟩),fun h=>by rw [h.a] at ha;cases ha⟩
 cases hl:m.bW with
 | nil=>
   have e:aU m f=({ f m with steps:=m.steps+1,down:=m.down,arm:=m.arm.map (· -1),bW:=m.bW },none):=by
     unfold aU bp
     rw [if_neg ha,hl]
     have:=hf m (m.steps+1) m.down (m.arm.map (· -1)) m.bW
     rw [hl] at this
     exact Prod.ext this rfl
   rw [e]
   exact ⟨fun _=>⟨⟨rfl,rfl,rfl,rfl,rfl⟩,hd⟩,fun h=>absurd rfl h,.inl rfl,fun h=>⟨rfl,⟨hd,by show m.arm.map _=none;rw [h.a];rfl,h.f⟩,rfl⟩⟩
 | cons k r=>
   cases k with
   | zero=>
     have e:aU m f=({ m with steps:=m.steps+1,arm:=m.arm.map (· -1),bW:=r },some 2):=by
       unfold aU bp
       rw [if_neg ha,hl]
     rw [e]
     exact ⟨fun h=>by simp at h,fun _=>⟨rfl,rfl,rfl,rfl,rfl⟩,.inr (.inl ⟨rfl,hd⟩),fun h=>by have:=h.f;rw [hl] at this;cases this⟩
   | succ k=>
     have e:aU m f=({ f m with steps:=m.steps+1,down:=m.down,arm:=m.arm.map (· -1),bW:=k::r },none):=by
       unfold aU bp
       rw [if_neg ha,hl]
       exact Prod.ext (hf m (m.steps+1) m.down (m.arm.map (· -1)) (k::r)) rfl
     rw [e]
     exact ⟨fun _=>⟨⟨rfl,rfl,rfl,rfl,rfl⟩,hd⟩,fun h=>absurd rfl h,.inl rfl,fun h=>by have:=h.f;rw [hl] at this;cases this⟩

section
variable {α:Type} (kid:α→List UInt8) (f:α→Nat)
theorem wL (p q:α→Bool) (hpq:∀x,p x=true→q x=true→False):∀S:List α,((S.filter p).map f).sum+((S.filter q).map f).sum≤(S.map f).sum
 | []=>by simp
 | x::S=>by
   have ih:=wL p q hpq S
   simp only [List.filter_cons]
   cases hp:p x<;>cases hq:q x<;>simp<;>try omega
   exact (hpq x hp hq).elim
theorem Ex (S:List α) (r:α):((eD kid S r).map f).sum≤f r+(S.map f).sum:=by
 have:=wL f (fun s=>lexLt (kid s) (kid r)) (fun s=>lexLt (kid r) (kid s)) (fun x h1 h2=>by
   have:=lex_trans _ _ _ h1 h2
   rw [lex_irrefl] at this;cases this) S
 unfold eD
 rw [List.map_append,List.sum_append,List.map_cons,List.sum_cons]
 omega
theorem KR (S:List α) (id:List UInt8):((eT kid S id).map f).sum≤(S.map f).sum:=by
 have:=wL f (fun s=> !decide (kid s=id)) (fun s=>decide (kid s=id)) (fun x h1 h2=>by simp at h1 h2;exact h1 h2) S
 unfold eT
 omega
theorem Cf {S:List α} {id:List UInt8} {y:α} (h:dr kid S id=some y):((eT kid S id).map f).sum+f y≤(S.map f).sum:=by
 have:=wL f (fun s=> !decide (kid s=id)) (fun s=>decide (kid s=id)) (fun x h1 h2=>by simp at h1 h2;exact h1 h2) S
 have hy:y∈S.filter fun s=>decide (kid s=id):=by
   obtain ⟨h1,h2⟩:=eE h
   exact List.mem_filter.2 ⟨h1,by simpa using h2⟩
 have h3:f y≤((S.filter fun s=>decide (kid s=id)).map f).sum:=wJ (List.mem_map_of_mem hy)
 unfold eT
 omega
end

theorem A7.iS (c:ChM):A7 fun m=>iS m c:=fun _ _ _ _ _=>rfl
theorem DU (n:Nm):A7 fun m=>iG m n:=fun _ _ _ _ _=>rfl
theorem DO (i:Nat) (ps:List (List UInt8)):A7 fun m=>bI m i ps:=fun _ _ _ _ _=>rfl
theorem H8 (i:Nat):A7 fun m=>kL m i:=fun _ _ _ _ _=>rfl
theorem BG:A7 fO:=fun _ _ _ _ _=>rfl

end Go.Proofs.YtpmhjnhgpplmnaaGreatDoor
end

section
namespace Go.Proofs.YtpmhjnhgpplmnaaGreatDoor
open Go Sx
set_option maxRecDepth 8000

def wB (fs:List cg) (d:Dir):Nat:=(d.map fun e=>(fileAt fs e.file).data.length).sum
structure SV (P W:Dir→Prop) (Z:List (Nat×List UInt8)) (u c:Nat) (s:Int) (m:af):Prop where
 wf:WFD m
 frz:∀z∈Z,z.1<m.files.length∧fileAt m.files z.1=⟨z.2,z.2.length⟩
 inv:∀k,P (replay m.syn (m.chs.take k))
 cur:W m.now
 use:∀k,wB m.files (replay m.syn (m.chs.take k))≤u∧(replay m.syn (m.chs.take k)).length≤c
 sz:m.size=s

section
variable {P P' W W':Dir→Prop} {Z Z':List (Nat×List UInt8)} {u c u' c':Nat} {s:Int} {m m':af} {n:Nm} {e:Ent}

theorem WFD.like (h:WFD m) (l:Iw m m'):WFD m':=⟨by rw [l.now,l.syn,l.chs];exact h.now,by rw [l.syn,l.chs,l.files];exact h.Bk,by rw [l.chs,l.files];exact h.made,by rw [l.files];exact h.syn,by rw [l.size];exact h.size⟩
theorem SV.like (h:SV P W Z u c s m) (l:Iw m m'):SV P W Z u c s m':=
 ⟨h.wf.like l,by rw [l.files];exact h.frz,by rw [l.syn,l.chs];exact h.inv,by rw [l.now];exact h.cur,by rw [l.files,l.syn,l.chs];exact h.use,l.size.trans h.sz⟩
theorem SV.now (h:SV P W Z u c s m):P m.now:=by
 have:=h.inv m.chs.length
 rw [List.take_length,←h.wf.now] at this
 exact this
theorem SV.used (h:SV P W Z u c s m):kB m≤u:=by
 have:=(h.use m.chs.length).1
 rw [List.take_length,←h.wf.now] at this
 exact this
theorem SV.cnt (h:SV P W Z u c s m):m.now.length≤c:=by
 have:=(h.use m.chs.length).2
 rw [List.take_length,←h.wf.now] at this
 exact this
theorem SV.imp (h:SV P W Z u c s m) (hp:∀d,P d→P' d) (hw:∀d,W d→W' d) (hu:u≤u') (hc:c≤c'):SV P' W' Z u' c' s m:=⟨h.wf,h.frz,fun k=>hp _ (h.inv k),hw _ h.cur,fun k=>⟨Nat.le_trans (h.use k).1 hu,Nat.le_trans (h.use k).2 hc⟩,h.sz⟩
theorem SV.MR (h:SV P W Z u c s m) {i:Nat} {b:List UInt8} (hi:i<m.files.length) (hb:fileAt m.files i=⟨b,b.length⟩):SV P W ((i,b)::Z) u c s m:=
 ⟨h.wf,fun z hz=>by
   rcases List.mem_cons.1 hz with rfl | hz
   · exact ⟨hi,hb⟩
   · exact h.frz z hz,h.inv,h.cur,h.use,h.sz⟩
theorem lX (h:WFD m) (hi:∀k,P (replay m.syn (m.chs.take k))) {x:ChM} (hx:P (mkD m.now x)) (k:Nat):P (replay m.syn ((m.chs++ [x]).take k)):=by
 by_cases hk:k≤m.chs.length
 · rw [List.take_append_of_le_length hk];exact hi k
 · rw [List.take_of_length_le (by simp;omega),oB,←h.now];exact hx
theorem DA {fs:List cg} {f:cg} {i:Nat} (hi:i<fs.length):fileAt (fs++ [f]) i=fileAt fs i:=by unfold fileAt List.getD;rw [List.getElem?_append_left hi]
theorem Ay (fs:List cg) (f:cg):fileAt (fs++ [f]) fs.length=f:=by unfold fileAt List.getD;rw [List.getElem?_append_right (Nat.le_refl _)];simp
theorem jf (h:WFD m) (hf:findD m.now n=some e):e∈m.now∧e.name=n∧e.file<m.files.length∧cN n=true:=by
 obtain ⟨h1,h2⟩:=eE hf
 have:=h.dZ.ent e h1
 exact ⟨h1,h2,this.1,by rw [←h2];exact this.2⟩

theorem SV.create (h:SV P W Z u c s m) (hn:cN n=true) (hf:findD m.now n=none) (hc:c<4096) (hP:P (eD Ent.name m.now ⟨n,m.files.length⟩)) (hW:W' (eD Ent.name m.now ⟨n,m.files.length⟩)):
   SV P W' Z u (c+1) s (iG m n)∧findD (iG m n).now n=some ⟨n,m.files.length⟩∧fileAt (iG m n).files m.files.length=iP:=by
 have hok:=h.wf.dZ
 have hl:=h.cnt
 have hins:fE (m.files++ [iP]).length (eD Ent.name m.now ⟨n,m.files.length⟩):=
   (hok.mono (by simp)).ins (by simp) hn (.inl (by omega)) fun e he _=>by have:=(hok.ent e he).1;omega
 have old:∀k,wB (m.files++ [iP]) (replay m.syn (m.chs.take k))=wB m.files (replay m.syn (m.chs.take k)):=fun k=>by
   unfold wB
   rw [List.map_congr_left fun e he=>by rw [DA ((h.wf.Bk k).ent e he).1]]
 refine ⟨⟨?_,fun z hz=>?_,fun k=>lX (x:=gx m n) h.wf h.inv hP k,hW,?_,h.sz⟩,?_,Ay _ _⟩
 · refine h.wf.snoc (c:=gx m n) (fs:=m.files++ [iP]) (by simp) (fun f hf=>?_) (fun i hi=>?_) hins
   · rcases List.mem_append.1 hf with hf | hf
     · exact h.wf.syn f hf
     · simp at hf;rw [hf];exact ⟨Nat.le_refl _,by simp [iP]⟩
   · have:i=m.files.length:=by simpa [gx] using hi.symm
     simp [this]
 · obtain ⟨h1,h2⟩:=h.frz z hz
   refine ⟨?_,?_⟩
   · show z.1<(m.files++ [iP]).length
     simp;omega
   · show fileAt (m.files++ [iP]) z.1=_
     rw [DA h1];exact h2
 · refine fun k=>lX (x:=gx m n) (P:=fun d=>wB (m.files++ [iP]) d≤u∧d.length≤c+1) h.wf (fun k=>⟨by rw [old];exact (h.use k).1,by have:=(h.use k).2;omega⟩) ⟨?_,?_⟩ k
   · show wB (m.files++ [iP]) (eD Ent.name m.now ⟨n,m.files.length⟩)≤u
     have h1:=Ex Ent.name (fun e=>(fileAt (m.files++ [iP]) e.file).data.length) m.now ⟨n,m.files.length⟩
     have h2:=old m.chs.length
     have h3:=(h.use m.chs.length).1
     rw [List.take_length,←h.wf.now] at h2 h3
     unfold wB at h2 h3 ⊢
     rw [h2,Ay] at h1
     simp [iP] at h1 ⊢
     omega
   · exact Nat.le_trans (xV (kid:=Ent.name) m.now ⟨n,m.files.length⟩) (by omega)
 · show dr Ent.name (eD Ent.name m.now ⟨n,m.files.length⟩) n=_
   rw [gO hok.asc];simp

theorem KC (fs:List cg) (i x:Nat):∀ {d:Dir},(d.Pairwise fun a b=>a.file≠b.file)→(d.map fun e=>if e.file=i then (fileAt fs e.file).data.length+x else (fileAt fs e.file).data.length).sum≤(d.map fun e=>(fileAt fs e.file).data.length).sum+x
 | [],_=>by simp
 | e::d,hp=>by
   obtain ⟨h1,h2⟩:=List.pairwise_cons.1 hp
   simp only [List.map_cons,List.sum_cons]
   by_cases he:e.file=i
   · have:(d.map fun e=>if e.file=i then (fileAt fs e.file).data.length+x else (fileAt fs e.file).data.length)=d.map fun e=>(fileAt fs e.file).data.length:=
       List.map_congr_left fun y hy=>by rw [if_neg (fun h=>h1 y hy (by rw [he,h]))]
     rw [this,if_pos he];omega
   · have:=KC fs i x h2
     rw [if_neg he];omega

theorem SV.append (h:SV P W Z u c s m) (hf:findD m.now n=some e) (hz:∀z∈Z,z.1≠e.file) {ps:List (List UInt8)} (hb:(fileAt m.files e.file).data.length+ps.flatten.length≤1099511627776):
   SV P W Z (u+ps.flatten.length) c s (bI m e.file ps)∧fileAt (bI m e.file ps).files e.file=⟨(fileAt m.files e.file).data++ps.flatten,(fileAt m.files e.file).syn⟩:=by
 obtain ⟨_,_,hi,_⟩:=jf h.wf hf
 have hat:fileAt (bI m e.file ps).files e.file=⟨(fileAt m.files e.file).data++ps.flatten,(fileAt m.files e.file).syn⟩:=by rw [dW,jw hi]
 refine ⟨⟨?_,fun z hz'=>?_,h.inv,h.cur,?_,h.sz⟩,hat⟩
 · refine h.wf.files (mq _ _ _) ?_
   have:=uu h.wf.syn e.file
   exact wS (m:=m) h.wf.syn (g:=⟨(fileAt m.files e.file).data++ps.flatten,(fileAt m.files e.file).syn⟩) ⟨by simp only [List.length_append];omega,by simp only [List.length_append];omega⟩
 · obtain ⟨h1,h2⟩:=h.frz z hz'
   refine ⟨by rw [dW,mq];exact h1,?_⟩
   rw [dW,iq (fun hh=>hz z hz' hh.symm)];exact h2
 · intro k
   refine ⟨?_,(h.use k).2⟩
   have h3:=(h.use k).1
   have h4:=KC m.files e.file ps.flatten.length (h.wf.Bk k).inj
   unfold wB at h3 ⊢
   have h5:((replay m.syn (m.chs.take k)).map fun x=>(fileAt (bI m e.file ps).files x.file).data.length)=(replay m.syn (m.chs.take k)).map fun x=>if x.file=e.file then (fileAt m.files x.file).data.length+ps.flatten.length else (fileAt m.files x.file).data.length:=
     List.map_congr_left fun x _=>by
       by_cases hx:x.file=e.file
       · rw [if_pos hx,hx,hat];simp
       · rw [if_neg hx,dW,iq (fun hh=>hx hh.symm)]
   show ((replay m.syn (m.chs.take k)).map fun x=>(fileAt (bI m e.file ps).files x.file).data.length).sum≤_
   rw [h5];omega

theorem SV.sync (h:SV P W Z u c s m) (hf:findD m.now n=some e):
   SV P W Z u c s (kL m e.file)∧fileAt (kL m e.file).files e.file=⟨(fileAt m.files e.file).data,(fileAt m.files e.file).data.length⟩:=by
 obtain ⟨_,_,hi,_⟩:=jf h.wf hf
 have hfs:(kL m e.file).files=gD m.files e.file fun f=>⟨f.data,f.data.length⟩:=rfl
 have hdat:∀i,(fileAt (kL m e.file).files i).data=(fileAt m.files i).data:=fun i=>by
   by_cases hx:e.file=i
   · rw [hfs,←hx,jw hi]
   · rw [hfs,iq hx]
 refine ⟨⟨?_,fun z hz=>?_,h.inv,h.cur,?_,h.sz⟩,by rw [hfs,jw hi]⟩
 · refine h.wf.files (mq _ _ _) ?_
   have:=uu h.wf.syn e.file
   exact wS (m:=m) h.wf.syn (g:=⟨(fileAt m.files e.file).data,(fileAt m.files e.file).data.length⟩) ⟨Nat.le_refl _,this.2⟩
 · obtain ⟨h1,h2⟩:=h.frz z hz
   refine ⟨by rw [hfs,mq];exact h1,?_⟩
   by_cases hx:e.file=z.1
   · rw [hfs,←hx,jw hi,hx,h2]
   · rw [hfs,iq hx,h2]
 · intro k
   refine ⟨?_,(h.use k).2⟩
   have h3:=(h.use k).1
   unfold wB at h3 ⊢
   have h5:((replay m.syn (m.chs.take k)).map fun x=>(fileAt (kL m e.file).files x.file).data.length)=(replay m.syn (m.chs.take k)).map fun x=>(fileAt m.files x.file).data.length:=List.map_congr_left fun x _=>by rw [hdat]
   show ((replay m.syn (m.chs.take k)).map fun x=>(fileAt (kL m e.file).files x.file).data.length).sum≤_
   rw [h5];exact h3

theorem SV.BP (h:SV P W Z u c s m) (hP:P' m.now):SV P' W Z u c s (fO m):=by
 have e:∀k,replay (fO m).syn ((fO m).chs.take k)=m.now:=fun k=>by
   show replay m.now ([].take k)=_
   rw [List.take_nil];rfl
 exact ⟨⟨rfl,fun k=>by rw [e];exact h.wf.dZ,fun c hc=>(by cases hc),h.wf.syn,h.wf.size⟩,h.frz,fun k=>(by rw [e];exact hP),h.cur,fun k=>(by rw [e];exact ⟨h.used,h.cnt⟩),h.sz⟩

theorem GJ (hf:findD m.now n=some e):mkD m.now ⟨none,n,[]⟩=eT Ent.name m.now n:=by
 unfold mkD;rw [show findD m.now (⟨none,n,[]⟩:ChM).fr=some e from hf];rfl
theorem Ll {b:Nm} (hf:findD m.now n=some e) (hb:b≠ []):mkD m.now ⟨none,n,b⟩=eD Ent.name (eT Ent.name m.now n) ⟨b,e.file⟩:=by
 unfold mkD;rw [show findD m.now (⟨none,n,b⟩:ChM).fr=some e from hf];exact if_neg hb
theorem SV.remove (h:SV P W Z u c s m) (hf:findD m.now n=some e) (hP:P' (eT Ent.name m.now n)) (hW:W' (eT Ent.name m.now n)) (hi:∀d,P d→P' d):SV P' W' Z u c s (iS m ⟨none,n,[]⟩):=by
 have hd:=GJ hf
 have h0:SV P' W Z u c s m:=h.imp hi (fun _ h=>h) (Nat.le_refl _) (Nat.le_refl _)
 refine ⟨?_,h.frz,fun k=>lX h.wf h0.inv (by rw [hd];exact hP) k,by show W' (mkD m.now ⟨none,n,[]⟩);rw [hd];exact hW,fun k=>lX (P:=fun d=>wB m.files d≤u∧d.length≤c) h.wf h.use ⟨?_,?_⟩ k,h.sz⟩
 · exact h.wf.snoc (c:=⟨none,n,[]⟩) (fs:=m.files) (Nat.le_refl _) h.wf.syn (fun i hi=>by cases hi) (by rw [hd];exact h.wf.dZ.del n)
 · rw [hd]
   exact Nat.le_trans (KR Ent.name _ m.now n) h.used
 · rw [hd]
   exact Nat.le_trans (Er _ _) h.cnt
theorem SV.rename (h:SV P W Z u c s m) {b:Nm} (hf:findD m.now n=some e) (hb:cN b=true) (hP:P' (eD Ent.name (eT Ent.name m.now n) ⟨b,e.file⟩)) (hW:W' (eD Ent.name (eT Ent.name m.now n) ⟨b,e.file⟩)) (hi:∀d,P d→P' d):SV P' W' Z u c s (iS m ⟨none,n,b⟩)∧findD (iS m ⟨none,n,b⟩).now b=some ⟨b,e.file⟩:=by
 have hb0:b≠ []:=fun h=>by rw [h] at hb;cases hb
 have hd:=Ll (b:=b) hf hb0
 obtain ⟨h1,h2,h3,_⟩:=jf h.wf hf
 have hok:=h.wf.dZ
 have h0:SV P' W Z u c s m:=h.imp hi (fun _ h=>h) (Nat.le_refl _) (Nat.le_refl _)
 have hlen:=vu (kid:=Ent.name) hf
 have hok2:fE m.files.length (eD Ent.name (eT Ent.name m.now n) ⟨b,e.file⟩):=
   (hok.del n).ins h3 hb (.inl (by have:=hok.len;omega)) fun x hx _ hxe=>by
     obtain ⟨hx1,hx2⟩:=lP.1 hx
     exact hx2 (by rw [hok.inj' hx1 h1 hxe];exact h2)
 refine ⟨⟨?_,h.frz,fun k=>lX h.wf h0.inv (by rw [hd];exact hP) k,by show W' (mkD m.now ⟨none,n,b⟩);rw [hd];exact hW,fun k=>lX (P:=fun d=>wB m.files d≤u∧d.length≤c) h.wf h.use ⟨?_,?_⟩ k,h.sz⟩,?_⟩
 · exact h.wf.snoc (c:=⟨none,n,b⟩) (fs:=m.files) (Nat.le_refl _) h.wf.syn (fun i hi=>by cases hi) (by rw [hd];exact hok2)
 · rw [hd]
   have a1:=Ex Ent.name (fun e=>(fileAt m.files e.file).data.length) (eT Ent.name m.now n) ⟨b,e.file⟩
   have a2:=Cf Ent.name (fun e=>(fileAt m.files e.file).data.length) hf
   have a3:=h.used
   unfold kB at a3
   unfold wB
   simp only at a1
   omega
 · rw [hd]
   have:=xV (kid:=Ent.name) (eT Ent.name m.now n) ⟨b,e.file⟩
   have:=h.cnt
   omega
 · show findD (mkD m.now ⟨none,n,b⟩) b=_
   rw [hd]
   show dr Ent.name _ b=_
   rw [gO (nT hok.asc n)];simp
end

section
variable {m:af} {n:Nm} {e:Ent}
theorem y7 {ns:List Nm} (hd:m.down=false) (hn:ns.all cN=true):fP m ns=none:=by unfold fP;rw [hd,hn];rfl
theorem oS (hd:m.down=false) (hw:WFD m) (hf:findD m.now n=some e):bX m n=none∧cI m n=e.file:=by
 obtain ⟨_,_,_,hg⟩:=jf hw hf
 refine ⟨?_,?_⟩
 · unfold bX;rw [hd,hg,hf];rfl
 · unfold cI;rw [hf];rfl
theorem EK (hd:m.down=false) (hn:cN n=true) (hf:findD m.now n=none) (hc:m.now.length<4096):Eff m (fun m=>iG m n) (aM m n):=by
 have:aM m n=aU m fun m=>iG m n:=by
   unfold aM
   rw [y7 hd (by simp [hn]),hf]
   simp only [Option.isSome_none,Bool.false_eq_true,if_false]
   rw [if_neg (by omega)]
 rw [this]
 exact jX m _ hd (DU n)
theorem Gq:∀ {ps:List (List UInt8)} {r:Int},(ps.flatten.length:Int)≤r→fits r ps=true
 | [],_,_=>rfl
 | p::ps,r,h=>by
   simp only [List.flatten_cons,List.length_append] at h
   unfold fits
   rw [Gq (ps:=ps) (by omega)]
   simp;omega
theorem F3 (hd:m.down=false) (hw:WFD m) (hf:findD m.now n=some e) {ps:List (List UInt8)} (hs:(kB m:Int)+ps.flatten.length≤m.size):Eff m (fun m=>bI m e.file ps) (aO m n ps):=by
 obtain ⟨h1,h2⟩:=oS hd hw hf
 have:aO m n ps=aU m fun m=>bI m e.file ps:=by
   unfold aO
   rw [h1,h2,Gq (by omega)]
   rfl
 rw [this]
 exact jX m _ hd (DO _ ps)
theorem Ju (hd:m.down=false) (hw:WFD m) (hf:findD m.now n=some e):Eff m (fun m=>kL m e.file) (cV m n):=by
 obtain ⟨h1,h2⟩:=oS hd hw hf
 have:cV m n=aU m fun m=>kL m e.file:=by unfold cV;rw [h1,h2]
 rw [this]
 exact jX m _ hd (H8 _)
theorem ox (hd:m.down=false):Eff m fO (aK m):=by
 have:aK m=aU m fO:=by unfold aK;rw [y7 hd rfl]
 rw [this]
 exact jX m _ hd BG
theorem EI {b:Nm} (hd:m.down=false) (hw:WFD m) (hf:findD m.now n=some e) (hb:cN b=true):Eff m (fun m=>iS m ⟨none,n,b⟩) (ey m n b):=by
 obtain ⟨h1,_⟩:=oS hd hw hf
 obtain ⟨_,_,_,hg⟩:=jf hw hf
 have:ey m n b=aU m fun m=>iS m ⟨none,n,b⟩:=by unfold ey;rw [y7 hd (by simp [hg,hb]),h1]
 rw [this]
 exact jX m _ hd (A7.iS _)
theorem xk (hd:m.down=false) (hw:WFD m) (hf:findD m.now n=some e):Eff m (fun m=>iS m ⟨none,n,[]⟩) (aL m n):=by
 obtain ⟨h1,_⟩:=oS hd hw hf
 have:aL m n=aU m fun m=>iS m ⟨none,n,[]⟩:=by unfold aL;rw [h1]
 rw [this]
 exact jX m _ hd (A7.iS _)
end

end Go.Proofs.YtpmhjnhgpplmnaaGreatDoor
end

section
namespace Go.Proofs.YtpmhjnhgpplmnaaGreatDoor
open Go Sx
set_option maxRecDepth 8000

structure Hr (k:Nat) (m:af) (r:af×Option Int) (Q E:af→Prop):Prop where
 ok:r.2=none→Q r.1∧r.1.down=false
 no:r.2≠none→E r.1
 er:r.2=none∨(r.2=some 2∧r.1.down=false)∨(r.2=some 1∧r.1.down=true)
 calm:Calm m→r.2=none∧Calm r.1∧r.1.steps=m.steps+k
section
variable {k j:Nat} {m:af} {r:af×Option Int} {Q Q' E E':af→Prop}
theorem Eff.hr {f:af→af} (h:Eff m f r) (hq:∀m',Iw (f m) m'→Q m') (he:∀m',Iw m m'→E m'):Hr 1 m r Q E:=
 ⟨fun hn=>⟨hq _ (h.ok hn).1,(h.ok hn).2⟩,fun hn=>he _ (h.no hn),h.er,h.calm⟩
theorem Hr.imp (h:Hr k m r Q E) (hq:∀m',Q m'→Q' m') (he:∀m',E m'→E' m'):Hr k m r Q' E':=
 ⟨fun hn=>⟨hq _ (h.ok hn).1,(h.ok hn).2⟩,fun hn=>he _ (h.no hn),h.er,h.calm⟩
theorem Hr.then {f:af→af×Option Int} (h:Hr k m r Q E) (hf:∀m',Q m'→m'.down=false→Hr j m' (f m') Q' E):Hr (k+j) m (aP r f) Q' E:=by
 cases hr:r.2 with
 | some e=>
   have e1:aP r f=(r.1,some e):=by unfold aP;rw [hr]
   rw [e1]
   exact ⟨fun h=>(by cases h),fun _=>h.no (by rw [hr];simp),by have:=h.er;rw [hr] at this;exact this,fun hc=>by have:=(h.calm hc).1;rw [hr] at this;cases this⟩
 | none=>
   have e1:aP r f=f r.1:=by unfold aP;rw [hr]
   rw [e1]
   obtain ⟨q,d⟩:=h.ok hr
   have h2:=hf _ q d
   exact ⟨h2.ok,h2.no,h2.er,fun hc=>by
     obtain ⟨_,c1,s1⟩:=h.calm hc
     obtain ⟨a,b,s2⟩:=h2.calm c1
     exact ⟨a,b,by omega⟩⟩
theorem Hr.nil (hd:m.down=false) (hq:Q m):Hr 0 m (m,none) Q E:=⟨fun _=>⟨hq,hd⟩,fun h=>absurd rfl h,.inl rfl,fun h=>⟨rfl,h,rfl⟩⟩
end

theorem A1 (m:af) (n:Nm) (p:List UInt8) (ps:List (List UInt8)):bC m n (p::ps)=aP (aO m n [p]) fun m=>bC m n ps:=by
 rw [bC];unfold aP;cases (aO m n [p]).2<;>rfl
theorem save_eq (m:af) (n:Nm) (ps:List (List UInt8)):gq m n ps=aP (aM m n) fun m=>aP (bC m n ps) fun m=>cV m n:=by
 unfold gq aP
 cases (aM m n).2 with
 | some e=>rfl
 | none=>simp only;cases (bC (aM m n).1 n ps).2<;>rfl

section
variable {P P' W W':Dir→Prop} {Z Z':List (Nat×List UInt8)} {u c:Nat} {s:Int} {m:af} {n:Nm}

theorem uK {e:Ent} {b:List UInt8} {y:Nat} {ps:List (List UInt8)} (h:SV P W Z u c s m) (hd:m.down=false) (hf:findD m.now n=some e) (hb:fileAt m.files e.file=⟨b,y⟩) (hz:∀z∈Z,z.1≠e.file) (hs:(u:Int)+ps.flatten.length≤s):
   Hr 1 m (aO m n ps) (fun m'=>SV P W Z (u+ps.flatten.length) c s m'∧findD m'.now n=some e∧fileAt m'.files e.file=⟨b++ps.flatten,y⟩) (SV P W Z (u+ps.flatten.length) c s):=by
 have hu:=h.used
 have hsz:=h.sz
 have hw:=h.wf.size
 have hl:b.length≤1099511627776∧b.length≤kB m:=by
   have h1:=uu h.wf.syn e.file
   rw [hb] at h1
   obtain ⟨he,_⟩:=jf h.wf hf
   have:(fileAt m.files e.file).data.length≤kB m:=wJ (List.mem_map_of_mem (f:=fun e=>(fileAt m.files e.file).data.length) he)
   rw [hb] at this
   exact ⟨h1.2,this⟩
 have h0:SV P W Z (u+ps.flatten.length) c s m:=h.imp (fun _ h=>h) (fun _ h=>h) (by omega) (Nat.le_refl _)
 refine (F3 hd h.wf hf (ps:=ps) (by omega)).hr (fun m' l=>?_) (fun m' l=>h0.like l)
 obtain ⟨h1,h2⟩:=h.append hf hz (ps:=ps) (by rw [hb];simp only;omega)
 refine ⟨h1.like l,by rw [l.now];exact hf,by rw [l.files,h2,hb]⟩
theorem xx {e:Ent} :∀(ps:List (List UInt8)) {u:Nat} {m:af} {b:List UInt8} {y:Nat},SV P W Z u c s m→m.down=false→findD m.now n=some e→fileAt m.files e.file=⟨b,y⟩→(∀z∈Z,z.1≠e.file)→(u:Int)+ps.flatten.length≤s→
   Hr ps.length m (bC m n ps) (fun m'=>SV P W Z (u+ps.flatten.length) c s m'∧findD m'.now n=some e∧fileAt m'.files e.file=⟨b++ps.flatten,y⟩) (SV P W Z (u+ps.flatten.length) c s)
 | [],u,m,b,y,h,hd,hf,hb,_,_=>by
   refine Hr.nil hd ⟨by simpa using h,hf,by simpa using hb⟩
 | p::ps,u,m,b,y,h,hd,hf,hb,hz,hs=>by
   have e1:(p::ps).flatten.length=p.length+ps.flatten.length:=by simp
   have e2: [p].flatten=p:=by simp
   rw [e1] at hs ⊢
   rw [A1,List.length_cons,Nat.add_comm ps.length 1]
   have h1:=uK (ps:=[p]) h hd hf hb hz (by rw [e2];omega)
   rw [e2] at h1
   have h2:=h1.imp (Q':=fun m'=>SV P W Z (u+p.length) c s m'∧findD m'.now n=some e∧fileAt m'.files e.file=⟨b++p,y⟩) (E':=SV P W Z (u+(p.length+ps.flatten.length)) c s) (fun _ h=>h) (fun _ h=>h.imp (fun _ h=>h) (fun _ h=>h) (by omega) (Nat.le_refl _))
   refine Hr.then h2 fun m' ⟨q1,q2,q3⟩ hd'=>?_
   have:=xx ps q1 hd' q2 q3 hz (by omega)
   rw [Nat.add_assoc] at this
   refine this.imp (fun _ ⟨a,b,c⟩=>⟨a,b,by rw [c];simp⟩) (fun _ h=>h)
theorem Bp {e:Ent} {b:List UInt8} {y:Nat} (h:SV P W Z u c s m) (hd:m.down=false) (hf:findD m.now n=some e) (hb:fileAt m.files e.file=⟨b,y⟩):
   Hr 1 m (cV m n) (fun m'=>SV P W Z u c s m'∧findD m'.now n=some e∧fileAt m'.files e.file=⟨b,b.length⟩) (SV P W Z u c s):=by
 refine (Ju hd h.wf hf).hr (fun m' l=>?_) (fun m' l=>h.like l)
 obtain ⟨h1,h2⟩:=h.sync hf
 exact ⟨h1.like l,by rw [l.now];exact hf,by rw [l.files,h2,hb]⟩
theorem uO (h:SV P W Z u c s m) (hd:m.down=false) (hn:cN n=true) (hf:findD m.now n=none) (hc:c<4096) (hP:P (eD Ent.name m.now ⟨n,m.files.length⟩)) (hW:W' (eD Ent.name m.now ⟨n,m.files.length⟩)):
   Hr 1 m (aM m n) (fun m'=>SV P W' Z u (c+1) s m'∧findD m'.now n=some ⟨n,m.files.length⟩∧fileAt m'.files m.files.length=⟨[],0⟩) (SV P W Z u c s):=by
 refine (EK hd hn hf (by have:=h.cnt;omega)).hr (fun m' l=>?_) (fun m' l=>h.like l)
 obtain ⟨h1,h2,h3⟩:=h.create hn hf hc hP hW
 exact ⟨h1.like l,by rw [l.now];exact h2,by rw [l.files];exact h3⟩
theorem LJ {ps:List (List UInt8)} (h:SV P W Z u c s m) (hd:m.down=false) (hn:cN n=true) (hf:findD m.now n=none) (hc:c<4096) (hs:(u:Int)+ps.flatten.length≤s) (hP:P (eD Ent.name m.now ⟨n,m.files.length⟩)) (hW:W' (eD Ent.name m.now ⟨n,m.files.length⟩)) (hWW:∀d,W' d→W d):
   Hr (ps.length+2) m (gq m n ps) (fun m'=>SV P W' ((m.files.length,ps.flatten)::Z) (u+ps.flatten.length) (c+1) s m'∧findD m'.now n=some ⟨n,m.files.length⟩) (SV P W Z (u+ps.flatten.length) (c+1) s):=by
 rw [save_eq,show ps.length+2=1+(ps.length+1) by omega]
 have hz:∀z∈Z,z.1≠m.files.length:=fun z hz=>by have:=(h.frz z hz).1;omega
 refine Hr.then ((uO h hd hn hf hc hP hW).imp (fun _ h=>h) (fun _ h=>h.imp (fun _ h=>h) (fun _ h=>h) (by omega) (by omega))) fun m1 ⟨q1,q2,q3⟩ hd1=>?_
 refine Hr.then ((xx ps q1 hd1 q2 q3 hz hs).imp (fun _ h=>h) (fun _ h=>h.imp (fun _ h=>h) hWW (Nat.le_refl _) (Nat.le_refl _))) fun m2 ⟨q1,q2,q3⟩ hd2=>?_
 refine (Bp q1 hd2 q2 q3).imp (fun m3 ⟨q1,q2,q3⟩=>⟨q1.MR (jf q1.wf q2).2.2.1 ?_,q2⟩) (fun _ h=>h.imp (fun _ h=>h) hWW (Nat.le_refl _) (Nat.le_refl _))
 rw [q3,List.nil_append]
end

def VwD (K:List UInt8) (L:List (Nm×Nat)) (g:Int) (Z:List (Nat×List UInt8)) (d:Dir):Prop:=
 (∀t∈L,findD d t.1=some ⟨t.1,t.2⟩)∧∀e∈d,∀x,zi e.name=some x→x≤g∧∃C:bR,C.gen=x∧aH C=true∧gE C∧(e.file,jI K C)∈Z
theorem oF {n:Nm} {x:Int} :zi n=some x↔1≤x∧x≤1099511627776∧aV 99 x=n:=Jj (by omega) (by omega)
section
variable {K:List UInt8} {L L':List (Nm×Nat)} {g g':Int} {Z Z':List (Nat×List UInt8)} {d:Dir} {n:Nm} {i:Nat}
theorem VwD.sub (h:VwD K L g Z d) (hl:∀t∈L',t∈L) (hg:g≤g') (hz:∀z∈Z,z∈Z'):VwD K L' g' Z' d:=
 ⟨fun t ht=>h.1 t (hl t ht),fun e he x hx=>by
   obtain ⟨h1,C,h2,h3,h4,h5⟩:=h.2 e he x hx
   exact ⟨by omega,C,h2,h3,h4,hz _ h5⟩⟩
theorem VwD.add (h:VwD K L g Z d) (hf:findD d n=some ⟨n,i⟩):VwD K ((n,i)::L) g Z d:=
 ⟨fun t ht=>by
   rcases List.mem_cons.1 ht with rfl | ht
   · exact hf
   · exact h.1 t ht,h.2⟩
theorem VwD.ins (h:VwD K L g Z d) (ha:gU Ent.name d) (hn:∀t∈L,t.1≠n) (hg:zi n=none) (i:Nat):VwD K L g Z (eD Ent.name d ⟨n,i⟩):=
 ⟨fun t ht=>by
   show dr Ent.name (eD Ent.name d _) t.1=_
   rw [gO ha,if_neg (fun h=>hn t ht h.symm)]
   exact h.1 t ht,fun e he x hx=>by
   rcases kI.1 he with rfl | ⟨he,_⟩
   · rw [hg] at hx;cases hx
   · exact h.2 e he x hx⟩
theorem VwD.del (h:VwD K L g Z d) (hn:∀t∈L,t.1≠n):VwD K L g Z (eT Ent.name d n):=
 ⟨fun t ht=>by
   show dr Ent.name (eT Ent.name d n) t.1=_
   rw [wR,if_neg (fun h=>hn t ht h.symm)]
   exact h.1 t ht,fun e he x hx=>h.2 e (lP.1 he).1 x hx⟩
theorem VwD.up {C:bR} (h:VwD K L g Z d) (ha:gU Ent.name d) (hn:∀t∈L,t.1≠aV 99 C.gen) (hg:g≤C.gen) (hc:aH C=true) (ho:gE C) (hz:(i,jI K C)∈Z):VwD K ((aV 99 C.gen,i)::L) C.gen Z (eD Ent.name d ⟨aV 99 C.gen,i⟩):=
 ⟨fun t ht=>by
   show dr Ent.name (eD Ent.name d _) t.1=_
   rw [gO ha]
   rcases List.mem_cons.1 ht with rfl | ht
   · simp
   · rw [if_neg (fun h=>hn t ht h.symm)]
     exact h.1 t ht,fun e he x hx=>by
   rcases kI.1 he with rfl | ⟨he,_⟩
   · have:=(oF.1 hx).2.2
     have hb:=bH hc
     have h2:zi (aV 99 C.gen)=some C.gen:=oF.2 ⟨hb.1.1,hb.1.2,rfl⟩
     have hx:zi (aV 99 C.gen)=some x:=hx
     rw [h2] at hx
     obtain rfl:C.gen=x:=by simpa using hx
     exact ⟨Int.le_refl _,C,rfl,hc,ho,hz⟩
   · obtain ⟨h1,h2⟩:=h.2 e he x hx
     exact ⟨by omega,h2⟩⟩
theorem VwD.dn (h:VwD K L (g+1) Z d) (hn:∀t∈L,t.1≠aV 99 (g+1)):VwD K L g Z (eT Ent.name d (aV 99 (g+1))):=
 ⟨(h.del hn).1,fun e he x hx=>by
   obtain ⟨h1,h2⟩:=lP.1 he
   obtain ⟨h3,h4⟩:=h.2 e h1 x hx
   refine ⟨?_,h4⟩
   have h5:=(oF.1 hx).2.2
   have:x≠g+1:=fun hh=>h2 (by rw [←h5,hh])
   omega⟩
end

end Go.Proofs.YtpmhjnhgpplmnaaGreatDoor
end

section
namespace Go.Proofs.YtpmhjnhgpplmnaaGreatDoor
open Go Sx
set_option maxRecDepth 8000

structure Cm (k:Nat) (m:af) (r:af×Option Int) (Q A B:af→Prop):Prop where
 ok:r.2=none→Q r.1∧r.1.down=false
 io:r.2=some 2→A r.1∧r.1.down=false
 dn:r.2=some 1→B r.1∧r.1.down=true
 dd:r.2=some 22→B r.1
 er:r.2=none∨r.2=some 2∨r.2=some 1∨r.2=some 22
 calm:Calm m→r.2=none∧Calm r.1∧r.1.steps=m.steps+k
section
variable {k j:Nat} {m:af} {r:af×Option Int} {Q Q' E A B A' B':af→Prop}
theorem Hr.cm (h:Hr k m r Q E) (ha:∀m',E m'→A m') (hb:∀m',E m'→B m'):Cm k m r Q A B:=by
 have n0:∀ {e:Int},r.2=some e→E r.1:=fun he=>h.no (by rw [he];simp)
 refine ⟨h.ok,fun he=>⟨ha _ (n0 he),?_⟩,fun he=>⟨hb _ (n0 he),?_⟩,fun he=>hb _ (n0 he),?_,h.calm⟩
 · rcases h.er with h | h | h
   · rw [h] at he;cases he
   · exact h.2
   · rw [h.1] at he;cases he
 · rcases h.er with h | h | h
   · rw [h] at he;cases he
   · rw [h.1] at he;cases he
   · exact h.2
 · rcases h.er with h | h | h
   · exact .inl h
   · exact .inr (.inl h.1)
   · exact .inr (.inr (.inl h.1))
theorem Cm.imp (h:Cm k m r Q A B) (hq:∀m',Q m'→Q' m') (ha:∀m',A m'→A' m') (hb:∀m',B m'→B' m'):Cm k m r Q' A' B':=
 ⟨fun hn=>⟨hq _ (h.ok hn).1,(h.ok hn).2⟩,fun hn=>⟨ha _ (h.io hn).1,(h.io hn).2⟩,fun hn=>⟨hb _ (h.dn hn).1,(h.dn hn).2⟩,fun hn=>hb _ (h.dd hn),h.er,h.calm⟩
theorem Cm.then {f:af→af×Option Int} (h:Cm k m r Q A B) (hf:∀m',Q m'→m'.down=false→Cm j m' (f m') Q' A B):Cm (k+j) m (aP r f) Q' A B:=by
 cases hr:r.2 with
 | some e=>
   have e1:aP r f=(r.1,some e):=by unfold aP;rw [hr]
   rw [e1]
   rw [←hr]
   exact ⟨fun hn=>(by rw [hr] at hn;cases hn),h.io,h.dn,h.dd,h.er,fun hc=>by have:=(h.calm hc).1;rw [hr] at this;cases this⟩
 | none=>
   have e1:aP r f=f r.1:=by unfold aP;rw [hr]
   rw [e1]
   obtain ⟨q,d⟩:=h.ok hr
   have h2:=hf _ q d
   exact ⟨h2.ok,h2.io,h2.dn,h2.dd,h2.er,fun hc=>by
     obtain ⟨_,c1,s1⟩:=h.calm hc
     obtain ⟨a,b,s2⟩:=h2.calm c1
     exact ⟨a,b,by omega⟩⟩
end
structure Cn (m:af) (r:af×Option Int) (Q A B:af→Prop):Prop where
 ok:r.2=none→Q r.1∧r.1.down=false
 io:r.2=some 2→A r.1∧r.1.down=false
 dn:r.2=some 1→B r.1∧r.1.down=true
 dd:r.2=some 22→B r.1
 er:r.2=none∨r.2=some 2∨r.2=some 1∨r.2=some 22
 calm:Calm m→r.2=none∧Calm r.1
theorem Cm.cn {k:Nat} {m:af} {r:af×Option Int} {Q A B:af→Prop} (h:Cm k m r Q A B):Cn m r Q A B:=⟨h.ok,h.io,h.dn,h.dd,h.er,fun hc=>⟨(h.calm hc).1,(h.calm hc).2.1⟩⟩
theorem Cn.then {m:af} {r:af×Option Int} {Q Q' A B:af→Prop} {f:af→af×Option Int} (h:Cn m r Q A B) (hf:∀m',Q m'→m'.down=false→Cn m' (f m') Q' A B):Cn m (aP r f) Q' A B:=by
 cases hr:r.2 with
 | some e=>
   have e1:aP r f=(r.1,some e):=by unfold aP;rw [hr]
   rw [e1]
   rw [←hr]
   exact ⟨fun hn=>(by rw [hr] at hn;cases hn),h.io,h.dn,h.dd,h.er,fun hc=>by have:=(h.calm hc).1;rw [hr] at this;cases this⟩
 | none=>
   have e1:aP r f=f r.1:=by unfold aP;rw [hr]
   rw [e1]
   obtain ⟨q,d⟩:=h.ok hr
   have h2:=hf _ q d
   exact ⟨h2.ok,h2.io,h2.dn,h2.dd,h2.er,fun hc=>h2.calm (h.calm hc).2⟩
theorem DN (r:af×Option Int) (f g:af→af×Option Int):aP (aP r f) g=aP r fun m=>aP (f m) g:=by
 unfold aP
 cases r.2<;>rfl

section
variable {P P' W W':Dir→Prop} {Z Z':List (Nat×List UInt8)} {u c:Nat} {s:Int} {m:af} {n:Nm}
theorem uy (m:af) (n:Nm):vk m n=(findD m.now n).isSome:=by
 unfold vk cw findD dr
 rw [Bool.eq_iff_iff,List.contains_iff_mem,List.find?_isSome]
 constructor
 · intro h
   obtain ⟨e,he,rfl⟩:=List.mem_map.1 h
   exact ⟨e,he,by simp⟩
 · rintro ⟨e,he,hn⟩
   exact List.mem_map.2 ⟨e,he,by simpa using hn⟩
def wQ (m:af) (n:Nm):Nat:=if vk m n then 1 else 0
theorem xM (h:SV P W Z u c s m) (hd:m.down=false) (hP:P (eT Ent.name m.now n)) (hW:W (eT Ent.name m.now n)):
   Hr (wQ m n) m (bf n m) (fun m'=>SV P W Z u c s m'∧findD m'.now n=none∧m'.files=m.files) (SV P W Z u c s):=by
 unfold bf wQ
 rw [uy]
 cases hf:findD m.now n with
 | none=>exact Hr.nil hd ⟨h,hf,rfl⟩
 | some e=>
   refine (xk hd h.wf hf).hr (fun m' l=>⟨(h.remove hf hP hW (fun _ h=>h)).like l,?_,l.files⟩) (fun m' l=>h.like l)
   rw [l.now]
   show findD (mkD m.now ⟨none,n,[]⟩) n=none
   rw [GJ hf]
   show dr Ent.name (eT Ent.name m.now n) n=none
   rw [wR];simp
end

theorem Jq:zi tN=none:=by
 cases h:zi tN with
 | none=>rfl
 | some x=>
   obtain ⟨h1,h2,h3⟩:=oF.1 h
   obtain ⟨r,e,_⟩:=mB (c:=99) (v:=x) (by omega) h2
   rw [e] at h3
   cases h3
theorem EL {x:Int} (h0:0≤x) (h1:x≤1099511627776):cN (aV 99 x)=true:=by
 obtain ⟨r,e,_,hl,hb,_⟩:=mB (c:=99) h0 h1
 rw [e]
 unfold cN
 simp only [List.length_cons,Bool.and_eq_true,decide_eq_true_eq,List.all_eq_true]
 refine ⟨⟨by omega,by omega⟩,fun b hb'=>?_⟩
 unfold qH
 rcases List.mem_cons.1 hb' with rfl | hb'
 · decide
 · have:=hb b hb'
   simp only [Bool.and_eq_true,decide_eq_true_eq,Bool.not_eq_true',decide_eq_false_iff_not]
   omega

section
variable {K:List UInt8} {L L2:List (Nm×Nat)} {g:Int} {Z:List (Nat×List UInt8)} {u c i:Nat} {s:Int} {m:af} {C:bR} {b:List UInt8}

def zj (K:List UInt8) (L L2:List (Nm×Nat)) (g:Int) (i:Nat) (b:List UInt8) (Z:List (Nat×List UInt8)) (d:Dir):Prop:=VwD K L g Z d∨((i,b)∈Z∧VwD K ((aV 99 (g+1),i)::L2) (g+1) Z d)
def wN (K:List UInt8) (L L2:List (Nm×Nat)) (g:Int) (Z:List (Nat×List UInt8)) (u c:Nat) (s:Int) (m:af):Prop:=∃Z',(∀z∈Z,z∈Z')∧SV (VwD K L g Z') (VwD K L2 g Z') Z' u c s m
def LF (K:List UInt8) (L L2:List (Nm×Nat)) (g:Int) (i:Nat) (b:List UInt8) (Z:List (Nat×List UInt8)) (u c:Nat) (s:Int) (m:af):Prop:=∃Z',(∀z∈Z,z∈Z')∧SV (zj K L L2 g i b Z') (fun _=>True) Z' u c s m
theorem wN.two (h:wN K L L2 g Z u c s m):LF K L L2 g i b Z u c s m:=by
 obtain ⟨Z',hz,h⟩:=h
 exact ⟨Z',hz,h.imp (fun _ h=>.inl h) (fun _ _=>trivial) (Nat.le_refl _) (Nat.le_refl _)⟩

theorem Nh {Z2:List (Nat×List UInt8)} (hz2:∀z∈Z,z∈Z2) (h:SV (zj K L L2 g i b Z2) (VwD K ((aV 99 (g+1),i)::L2) (g+1) Z2) Z2 u c s m) (hd:m.down=false) (hLL:∀t∈L,t∈L2) (hcn:∀t∈L2,t.1≠aV 99 (g+1)):
   Cm 1 m (C2 (aV 99 (g+1)) m) (SV (VwD K ((aV 99 (g+1),i)::L2) (g+1) Z2) (VwD K ((aV 99 (g+1),i)::L2) (g+1) Z2) Z2 u c s) (wN K L L2 g Z u c s) (LF K L L2 g i b Z u c s):=by
 obtain ⟨n,hn⟩:∃n,aV 99 (g+1)=n:=⟨_,rfl⟩
 have two:∀ {W:Dir→Prop} {m':af},SV (zj K L L2 g i b Z2) W Z2 u c s m'→LF K L L2 g i b Z u c s m':=fun h=>⟨Z2,hz2,h.imp (fun _ h=>h) (fun _ _=>trivial) (Nat.le_refl _) (Nat.le_refl _)⟩
 have hy:=(ox hd).hr (Q:=SV (VwD K ((aV 99 (g+1),i)::L2) (g+1) Z2) (VwD K ((aV 99 (g+1),i)::L2) (g+1) Z2) Z2 u c s) (E:=SV (zj K L L2 g i b Z2) (VwD K ((aV 99 (g+1),i)::L2) (g+1) Z2) Z2 u c s) (fun m' l=>(h.BP h.cur).like l) (fun m' l=>h.like l)
 have noc:∀ {r:af×Option Int} {e:Int} {Q:Prop},(aK m).2=some e→Calm m→Q:=fun he hc=>by have:=(hy.calm hc).1;rw [he] at this;cases this
 rw [hn]
 unfold C2
 rcases hy.er with he | ⟨he,hd1⟩ | ⟨he,hd1⟩
 · rw [he]
   simp only
   rw [←hn]
   exact ⟨fun _=>hy.ok he,fun h=>(by cases h),fun h=>(by cases h),fun h=>(by cases h),.inl rfl,fun hc=>⟨rfl,(hy.calm hc).2⟩⟩
 · rw [he]
   simp only
   rw [if_neg (by decide)]
   have h1:=hy.no (by rw [he];simp)
   obtain ⟨m1,hm1⟩:∃m1,(aK m).1=m1:=⟨_,rfl⟩
   rw [hm1] at h1 hd1 ⊢
   have hf:findD m1.now n=some ⟨n,i⟩:=by rw [←hn];exact h1.cur.1 _ (List.mem_cons_self ..)
   have hdel:VwD K L2 g Z2 (eT Ent.name m1.now n):=by
     have:=h1.cur.sub (L':=L2) (g':=g+1) (Z':=Z2) (fun t ht=>List.mem_cons_of_mem _ ht) (Int.le_refl _) (fun _ h=>h)
     have:=this.dn hcn
     rw [hn] at this;exact this
   have hr:=(xk hd1 h1.wf hf).hr (Q:=SV (zj K L L2 g i b Z2) (VwD K L2 g Z2) Z2 u c s) (E:=SV (zj K L L2 g i b Z2) (VwD K ((aV 99 (g+1),i)::L2) (g+1) Z2) Z2 u c s) (fun m' l=>(h1.remove hf (.inl (hdel.sub hLL (Int.le_refl _) (fun _ h=>h))) hdel (fun _ h=>h)).like l) (fun m' l=>h1.like l)
   unfold kQ
   rcases hr.er with he2 | ⟨he2,hd2⟩ | ⟨he2,hd2⟩
   · rw [he2]
     simp only
     obtain ⟨h2,hd2⟩:=hr.ok he2
     obtain ⟨m2,hm2⟩:∃m2,(aL m1 n).1=m2:=⟨_,rfl⟩
     rw [hm2] at h2 hd2 ⊢
     have hs:=(ox hd2).hr (Q:=SV (VwD K L g Z2) (VwD K L2 g Z2) Z2 u c s) (E:=SV (zj K L L2 g i b Z2) (VwD K L2 g Z2) Z2 u c s) (fun m' l=>(h2.BP (h2.cur.sub hLL (Int.le_refl _) (fun _ h=>h))).like l) (fun m' l=>h2.like l)
     rcases hs.er with he3 | ⟨he3,hd3⟩ | ⟨he3,hd3⟩
     · rw [he3]
       simp only
       obtain ⟨h3,hd3⟩:=hs.ok he3
       exact ⟨fun h=>(by cases h),fun _=>⟨⟨Z2,hz2,h3⟩,hd3⟩,fun h=>(by cases h),fun h=>(by cases h),.inr (.inl rfl),noc (r:=(m,none)) he⟩
     · rw [he3]
       simp only
       exact ⟨fun h=>(by cases h),fun h=>(by cases h),fun h=>(by cases h),fun _=>two (hs.no (by rw [he3];simp)),.inr (.inr (.inr rfl)),noc (r:=(m,none)) he⟩
     · rw [he3]
       simp only
       exact ⟨fun h=>(by cases h),fun h=>(by cases h),fun _=>⟨two (hs.no (by rw [he3];simp)),hd3⟩,fun h=>(by cases h),.inr (.inr (.inl rfl)),noc (r:=(m,none)) he⟩
   · rw [he2]
     simp only
     exact ⟨fun h=>(by cases h),fun h=>(by cases h),fun h=>(by cases h),fun _=>two (hr.no (by rw [he2];simp)),.inr (.inr (.inr rfl)),noc (r:=(m,none)) he⟩
   · rw [he2]
     simp only
     exact ⟨fun h=>(by cases h),fun h=>(by cases h),fun _=>⟨two (hr.no (by rw [he2];simp)),hd2⟩,fun h=>(by cases h),.inr (.inr (.inl rfl)),noc (r:=(m,none)) he⟩
 · rw [he]
   simp only
   rw [if_pos trivial]
   exact ⟨fun h=>(by cases h),fun h=>(by cases h),fun _=>⟨two (hy.no (by rw [he];simp)),hd1⟩,fun h=>(by cases h),.inr (.inr (.inl rfl)),noc (r:=(m,none)) he⟩

theorem Aa (h:SV (VwD K L g Z) (VwD K L2 g Z) Z u c s m) (hd:m.down=false) (hLL:∀t∈L,t∈L2) (hg:C.gen=g+1) (hck:aH C=true) (hok:gE C) (ht:∀t∈L2,t.1≠tN) (hcn:∀t∈L2,t.1≠aV 99 (g+1)) (hc:c<4096) (hs:(u:Int)+(jI K C).length≤s):
   Cm (wQ m tN+5+1) m (aW K C m) (fun m'=>SV (VwD K ((aV 99 (g+1),m.files.length)::L2) (g+1) ((m.files.length,jI K C)::Z)) (VwD K ((aV 99 (g+1),m.files.length)::L2) (g+1) ((m.files.length,jI K C)::Z)) ((m.files.length,jI K C)::Z) (u+(jI K C).length) (c+1) s m')
     (wN K L L2 g Z (u+(jI K C).length) (c+1) s) (LF K L L2 g m.files.length (jI K C) Z (u+(jI K C).length) (c+1) s):=by
 obtain ⟨b,hb⟩:∃b,jI K C=b:=⟨_,rfl⟩
 have hbd:=bH hck
 have hgood:cN (aV 99 (g+1))=true:=EL (by omega) (by omega)
 have hL1t:∀t∈L,t.1≠tN:=fun t h'=>ht t (hLL t h')
 rw [hb] at hs ⊢
 have e0:aW K C m=aP (aP (bf tN m) fun m=>aP (aM m tN) fun m=>aP (aO m tN [b]) fun m=>aP (cV m tN) fun m=>aP (aK m) fun m=>ey m tN (aV 99 (g+1))) (C2 (aV 99 (g+1))):=by
   unfold aW
   rw [if_pos hck,hb,hg]
   simp only [DN]
   rfl
 rw [e0]
 obtain ⟨Z2,hZ2⟩:∃Z2,(m.files.length,b)::Z=Z2:=⟨_,rfl⟩
 have hz2:∀z∈Z,z∈Z2:=fun z hz=>by rw [←hZ2];exact List.mem_cons_of_mem _ hz
 rw [hZ2]
 refine Cm.then (Q:=SV (zj K L L2 g m.files.length b Z2) (VwD K ((aV 99 (g+1),m.files.length)::L2) (g+1) Z2) Z2 (u+b.length) (c+1) s) ?_ fun m' q hd'=>Nh hz2 q hd' hLL hcn
 refine Hr.cm (E:=SV (VwD K L g Z) (VwD K L2 g Z) Z (u+b.length) (c+1) s) ?_ (fun m' q=>⟨Z,fun _ h=>h,q⟩) (fun m' q=>wN.two ⟨Z,fun _ h=>h,q⟩)
 have wide:∀ {u' c':Nat} {m':af},SV (VwD K L g Z) (VwD K L2 g Z) Z u' c' s m'→u'≤u+b.length→c'≤c+1→SV (VwD K L g Z) (VwD K L2 g Z) Z (u+b.length) (c+1) s m':=fun h hu hc=>h.imp (fun _ h=>h) (fun _ h=>h) hu hc
 refine Hr.then ((xM h hd (h.now.del hL1t) (h.cur.del ht)).imp (fun _ h=>h) (fun _ q=>wide q (by omega) (by omega))) fun m1 ⟨q1,f1,e1⟩ hd1=>?_
 have hi:m1.files.length=m.files.length:=by rw [e1]
 have hz:∀z∈Z,z.1≠m.files.length:=fun z hz=>by have:=(h.frz z hz).1;omega
 rw [show (5:Nat)=1+(1+(1+(1+1))) by rfl]
 refine Hr.then ((uO q1 hd1 (by decide) f1 hc (q1.now.ins q1.wf.dZ.asc hL1t Jq _) (q1.cur.ins q1.wf.dZ.asc ht Jq _)).imp (fun _ h=>h) (fun _ q=>wide q (by omega) (by omega))) fun m2 ⟨q2,f2,a2⟩ hd2=>?_
 rw [hi] at f2 a2
 have eb: [b].flatten=b:=by simp
 have h3:=uK (ps:=[b]) q2 hd2 f2 a2 hz (by rw [eb];exact hs)
 rw [eb] at h3
 refine Hr.then (h3.imp (fun _ h=>h) (fun _ q=>wide q (by omega) (by omega))) fun m3 ⟨q3,f3,a3⟩ hd3=>?_
 refine Hr.then ((Bp q3 hd3 f3 a3).imp (fun _ h=>h) (fun _ q=>wide q (by omega) (by omega))) fun m4 ⟨q4,f4,a4⟩ hd4=>?_
 rw [List.nil_append] at a4
 refine Hr.then ((ox hd4).hr (Q:=fun m'=>SV (VwD K L g Z) (VwD K L2 g Z) Z (u+b.length) (c+1) s m'∧findD m'.now tN=some ⟨tN,m.files.length⟩∧fileAt m'.files m.files.length=⟨b,b.length⟩) (fun m' l=>⟨(q4.BP q4.now).like l,by rw [l.now];exact f4,by rw [l.files];exact a4⟩) (fun m' l=>q4.like l)) fun m5 ⟨q5,f5,a5⟩ hd5=>?_
 have q6:SV (zj K L L2 g m.files.length b Z2) (VwD K L2 g Z) Z2 (u+b.length) (c+1) s m5:=by
   have:=(q5.MR (jf q5.wf f5).2.2.1 a5).imp (P':=zj K L L2 g m.files.length b Z2) (fun d h=>.inl (h.sub (fun _ h=>h) (Int.le_refl _) hz2)) (fun _ h=>h) (Nat.le_refl _) (Nat.le_refl _)
   rw [←hZ2] at this ⊢
   exact this
 have hW:VwD K ((aV 99 (g+1),m.files.length)::L2) (g+1) Z2 (eD Ent.name (eT Ent.name m5.now tN) ⟨aV 99 (g+1),m.files.length⟩):=by
   have h1:=(q6.cur.del ht).sub (L':=L2) (g':=g) (Z':=Z2) (fun _ h=>h) (Int.le_refl _) hz2
   have:=h1.up (C:=C) (i:=m.files.length) (nT q6.wf.dZ.asc tN) (by rw [hg];exact hcn) (by omega) hck hok (by rw [←hZ2,←hb];exact List.mem_cons_self ..)
   rw [hg] at this;exact this
 refine (EI hd5 q5.wf f5 hgood).hr (fun m' l=>((q6.rename f5 hgood (.inr ⟨by rw [←hZ2];exact List.mem_cons_self ..,hW⟩) hW (fun _ h=>h)).1).like l) (fun m' l=>q5.like l)
end

end Go.Proofs.YtpmhjnhgpplmnaaGreatDoor
end

section
namespace Go.Proofs.YtpmhjnhgpplmnaaGreatDoor
open Go Sx
set_option maxRecDepth 8000

theorem ur (num:Int):∀(xs:List Itm) (s i:Nat) (x:Itm),xs[i]?=some x→(aT num s xs)[i]?=some (mkRef x.1 num (((nw s (xs.take i)+(dM x).length:Nat):Int)- ((x.2.length:Nat):Int)) ((x.2.length:Nat):Int))
 | [],_,_,_,h=>by simp at h
 | y::r,s,0,x,h=>by
   simp only [List.getElem?_cons_zero,Option.some.injEq] at h
   subst h;rfl
 | y::r,s,i+1,x,h=>by
   have ih:=ur num r (s+(dM y).length) i x (by simpa using h)
   simpa [aT,nw] using ih
def HL (x:Itm):List UInt8:=2::(iw (x.1++x.2).length++x.1)
theorem D5 (x:Itm):dM x=HL x++x.2:=by simp [dM,kD,HL]
theorem E7 {xs:List Itm} {i:Nat} {x:Itm} (hx:xs[i]?=some x):(xs.map dM).flatten=((xs.take i).map dM).flatten++(dM x++((xs.drop (i+1)).map dM).flatten):=by
 obtain ⟨hi,he⟩:=List.getElem?_eq_some_iff.1 hx
 have:xs=xs.take i++x::xs.drop (i+1):=by rw [←he,←List.drop_eq_getElem_cons hi,List.take_append_drop]
 have h2:=congrArg (fun l=>(l.map dM).flatten) this
 simpa using h2
theorem vM (K:List UInt8) (num:Int) (xs:List Itm):aY K num xs=iO num++((xs.map dM).flatten++gu K num (aT num 16 xs)):=by simp [aY,dH]

theorem Ef {num:Int} {xs:List Itm} (hs:cH xs) {i:Nat} {x:Itm} (hx:xs[i]?=some x):x.1.length=32∧x.2.length≤(dM x).length∧nw 16 (xs.take i)+(dM x).length≤33900032:=by
 have hm:=List.mem_of_getElem? hx
 have h1:=hs.idl x hm
 have h2:=hs.fD hm
 have h3:=su x h1 (by omega)
 have h4:=(hs.take i).bytes
 refine ⟨h1,by omega,?_⟩
 rw [sK]
 omega

theorem CW (K:List UInt8) {num:Int} (hg:cU num=true) {xs:List Itm} (hs:cH xs) {i:Nat} {x:Itm} (hx:xs[i]?=some x) {r:bq} (hr:(aT num 16 xs)[i]?=some r):
   r.id=x.1∧r.pack=num∧r.at_+r.len=((nw 16 (xs.take i)+(dM x).length:Nat):Int)∧yZ (aY K num xs) r=true∧Jg (aY K num xs) r=x.2:=by
 have hgi:=dO.1 hg
 obtain ⟨h1,h2,h3⟩:=Ef (num:=num) hs hx
 rw [ur num xs 16 i x hx,Option.some.injEq] at hr
 obtain ⟨e1,e2,e3,e4⟩:=CB (p:=num) (q:=(((nw 16 (xs.take i)+(dM x).length:Nat):Int)- ((x.2.length:Nat):Int))) (n:=((x.2.length:Nat):Int)) h1 ⟨by omega,by omega⟩ ⟨by omega,by omega⟩ ⟨by omega,by omega⟩
 rw [hr] at e1 e2 e3 e4
 have hlen:(dM x).length=(HL x).length+x.2.length:=by rw [D5,List.length_append]
 have hat:r.at_=(((iO num++((xs.take i).map dM).flatten++HL x).length:Nat):Int):=by
   rw [e3,sK]
   simp only [List.length_append,jY]
   omega
 have hb:aY K num xs=(iO num++((xs.take i).map dM).flatten++HL x)++(x.2++(((xs.drop (i+1)).map dM).flatten++gu K num (aT num 16 xs))):=by
   rw [vM,E7 hx,D5]
   simp only [List.append_assoc]
 have hok:yZ (aY K num xs) r=true:=by
   have hl:(aY K num xs).length=(iO num++((xs.take i).map dM).flatten++HL x).length+(x.2.length+(((xs.drop (i+1)).map dM).flatten++gu K num (aT num 16 xs)).length):=by
     rw [hb];simp only [List.length_append]
   simp only [yZ,Bool.and_eq_true,decide_eq_true_eq]
   rw [hat,e4]
   omega
 refine ⟨e1,e2,by omega,hok,?_⟩
 rw [Jg,if_pos hok,hat,e4,Int.toNat_natCast,Int.toNat_natCast,hb,List.drop_left' rfl,List.take_left' rfl]

end Go.Proofs.YtpmhjnhgpplmnaaGreatDoor
end

section
namespace Go.Proofs.YtpmhjnhgpplmnaaGreatDoor
open Go Sx
set_option maxRecDepth 8000

def I8 (K p:List UInt8):Itm:=(idF K p,dA K 2 (idF K p) p)
abbrev PkL:=List (Int×List Itm)
def qJ (PL:PkL):Refs:=PL.flatMap fun q=>aT q.1 16 q.2
def tW (K:List UInt8) (q:Int×List Itm):PkD:=⟨q.1,((aY K q.1 q.2).length:Int),(q.2.length:Int)⟩
structure RL (K:List UInt8) (ps:List PkD) (S:Refs) (PL:PkL) (U:List (List UInt8)):Prop where
 aj:ps=PL.map (tW K)
 Da:∀q∈PL,cU q.1=true
 diff:PL.Pairwise fun x y=>x.1≠y.1
 small:∀q∈PL,cH q.2
 itm:∀q∈PL,∀x∈q.2,∃p∈U,x=I8 K p
 asc:Asc S
 refs:S.Perm (qJ PL)
 len:∀p∈U,p.length≤67000000

theorem GW {S:Refs} (h:Asc S) {x:bq} (hx:x∈S):findF S x.id=some x:=(mg (kid:=bq.id) h).2 hx
theorem E3 {S:Refs} {id:List UInt8} {x:bq} (h:findF S id=some x):x∈S∧x.id=id:=eE (kid:=bq.id) h
theorem Ds (K:List UInt8) {num:Int} (hg:cU num=true) {xs:List Itm} (hs:cH xs) {r:bq} (hr:r∈aT num 16 xs):∃x∈xs,r.id=x.1∧r.pack=num∧yZ (aY K num xs) r=true∧Jg (aY K num xs) r=x.2:=by
 obtain ⟨i,hi⟩:=List.mem_iff_getElem?.1 hr
 have hlt:i<xs.length:=by have:=(List.getElem?_eq_some_iff.1 hi).1;rwa [fu] at this
 obtain ⟨h1,h2,_,h4,h5⟩:=CW K hg hs (List.getElem?_eq_getElem hlt) hi
 exact ⟨_,List.getElem_mem hlt,h1,h2,h4,h5⟩
theorem EY {num:Int} (hg:cU num=true) {xs:List Itm} (hs:cH xs) {r:bq} (hr:r∈aT num 16 xs):r.pack=num:=by
 obtain ⟨_,_,_,h,_⟩:=Ds [] hg hs hr;exact h
theorem uq {num:Int} (hg:cU num=true) {xs:List Itm} (hs:cH xs):(aT num 16 xs).map (·.id)=xs.map (·.1):=by
 apply List.ext_getElem?
 intro i
 rw [List.getElem?_map,List.getElem?_map]
 cases hx:xs[i]? with
 | none=>
   have:(aT num 16 xs)[i]?=none:=by rw [List.getElem?_eq_none_iff,fu];exact List.getElem?_eq_none_iff.1 hx
   rw [this];rfl
 | some x=>
   have hr:=ur num xs 16 i x hx
   rw [hr]
   exact congrArg some (CW [] hg hs hx hr).1

structure FrI (K:List UInt8) (S:Refs) (drop:List Int) (done:List (List UInt8)) (st:List Itm×List (List UInt8)):Prop where
 ids:st.2=st.1.map (·.1)
 nd:st.2.Nodup
 src:∀x∈st.1,∃p∈done,x=I8 K p∧kr S drop x.1=false
 all:∀p∈done,idF K p∈st.2∨kr S drop (idF K p)=true
theorem y9 (K:List UInt8) (S:Refs) (drop:List Int):∀(ls done:List (List UInt8)) (st:List Itm×List (List UInt8)),FrI K S drop done st→FrI K S drop (done++ls) (ls.foldl (bJ K S drop) st)
 | [],done,st,h=>by simpa using h
 | p::ls,done,st,h=>by
   have e:done++p::ls=(done++ [p])++ls:=by simp
   rw [e,List.foldl_cons]
   refine y9 K S drop ls (done++ [p]) _ ?_
   unfold bJ
   by_cases hc:(st.2.contains (idF K p)||kr S drop (idF K p))=true
   · rw [if_pos hc]
     refine ⟨h.ids,h.nd,fun x hx=>?_,fun y hy=>?_⟩
     · obtain ⟨q,hq,r⟩:=h.src x hx
       exact ⟨q,List.mem_append_left _ hq,r⟩
     · rcases List.mem_append.1 hy with hy | hy
       · exact h.all y hy
       · simp only [List.mem_singleton] at hy
         subst hy
         simp only [Bool.or_eq_true,List.contains_iff_mem] at hc
         exact hc
   · rw [if_neg hc]
     simp only [Bool.or_eq_true,List.contains_iff_mem,not_or,Bool.not_eq_true] at hc
     refine ⟨by simp [h.ids],?_,fun x hx=>?_,fun y hy=>?_⟩
     · show (st.2++ [idF K p]).Nodup
       rw [List.nodup_append]
       refine ⟨h.nd,by simp,fun a ha b hb=>?_⟩
       simp only [List.mem_singleton] at hb
       rintro rfl
       exact hc.1 (hb ▸ ha)
     · rcases List.mem_append.1 hx with hx | hx
       · obtain ⟨q,hq,r⟩:=h.src x hx
         exact ⟨q,List.mem_append_left _ hq,r⟩
       · simp only [List.mem_singleton] at hx
         exact ⟨p,by simp,hx,by rw [hx];exact hc.2⟩
     · show idF K y∈st.2++ [idF K p]∨_
       rcases List.mem_append.1 hy with hy | hy
       · exact (h.all y hy).imp (List.mem_append_left _) id
       · simp only [List.mem_singleton] at hy
         subst hy
         exact .inl (by simp)
theorem nk (K:List UInt8) (S:Refs) (drop:List Int) (ls:List (List UInt8)):FrI K S drop ls (fS K S drop ls):=by
 have:=y9 K S drop ls [] ([],[]) ⟨rfl,List.nodup_nil,by simp,by simp⟩
 simpa [fS] using this

theorem FI {S:Refs} (h:Asc S) {r:bq} (hn:∀x∈S,x.id≠r.id):(qO S r).Perm (r::S):=by
 obtain ⟨A,B,e,hS,_⟩:=pg h r
 rcases hS with rfl | ⟨y,hy,rfl⟩
 · rw [e];exact List.perm_middle
 · exact absurd hy (hn y (by simp))
theorem Ax:∀(l S:Refs),Asc S→(∀x∈S,∀y∈l,x.id≠y.id)→(l.map (·.id)).Nodup→(iM S l).Perm (S++l)
 | [],S,_,_,_=>by simp [iM]
 | r::l,S,h,hd,hn=>by
   rw [List.map_cons,List.nodup_cons] at hn
   have h1:=FI h (r:=r) (fun x hx=>hd x hx r (by simp))
   have h2:=Ax l (qO S r) (rX h r) (fun x hx y hy=>by
     rcases List.mem_cons.1 (h1.mem_iff.1 hx) with rfl | hx
     · exact fun e=>hn.1 (List.mem_map.2 ⟨y,hy,e.symm⟩)
     · exact hd x hx y (by simp [hy])) hn.2
   show (iM (qO S r) l).Perm (S++r::l)
   refine h2.trans ((List.Perm.append_right l h1).trans ?_)
   rw [List.cons_append]
   exact List.perm_middle.symm
theorem DK {S:Refs} (h:Asc S) (drop:List Int):Asc (bu S drop):=h.sublist List.filter_sublist
theorem wW (drop:List Int):∀ {PL:PkL},(∀q∈PL,cU q.1=true∧cH q.2)→(qJ PL).filter (fun r=> !drop.contains r.pack)=qJ (PL.filter fun q=> !drop.contains q.1)
 | [],_=>rfl
 | q::PL,h=>by
   obtain ⟨hg,hs⟩:=h q (by simp)
   have ih:=wW drop (PL:=PL) fun x hx=>h x (by simp [hx])
   unfold qJ at ih ⊢
   rw [List.flatMap_cons,List.filter_append,ih,List.filter_cons]
   have hp:∀r∈aT q.1 16 q.2,r.pack=q.1:=fun r hr=>EY hg hs hr
   cases hc:drop.contains q.1 with
   | true=>
     have:(aT q.1 16 q.2).filter (fun r=> !drop.contains r.pack)=[]:=List.filter_eq_nil_iff.2 fun r hr=>by rw [hp r hr,hc];simp
     rw [this];simp
   | false=>
     have:(aT q.1 16 q.2).filter (fun r=> !drop.contains r.pack)=aT q.1 16 q.2:=List.filter_eq_self.2 fun r hr=>by rw [hp r hr,hc];rfl
     rw [this];simp

def fM (PL:PkL) (drop:List Int) (n:Int) (xs:List Itm):PkL:=(PL.filter fun q=> !drop.contains q.1)++if xs=[] then [] else [(n,xs)]
section
variable {K:List UInt8} {ps:List PkD} {S:Refs} {PL:PkL} {U:List (List UInt8)}

theorem RL.stays (h:RL K ps S PL U) {drop:List Int} {id:List UInt8} :kr S drop id=true↔∃x∈bu S drop,x.id=id:=by
 unfold kr
 constructor
 · intro hs
   cases hf:findF S id with
   | none=>rw [hf] at hs;cases hs
   | some x=>
     rw [hf] at hs
     obtain ⟨h1,h2⟩:=E3 hf
     exact ⟨x,List.mem_filter.2 ⟨h1,hs⟩,h2⟩
 · rintro ⟨x,hx,rfl⟩
   obtain ⟨h1,h2⟩:=List.mem_filter.1 hx
   rw [GW h.asc h1]
   exact h2
theorem RL.perm (h:RL K ps S PL U) (drop:List Int) (ls:List (List UInt8)) {n:Int} (hg:cU n=true) (hs:cH (aQ K S drop ls)):(iM (bu S drop) (aT n 16 (aQ K S drop ls))).Perm (bu S drop++aT n 16 (aQ K S drop ls)):=by
 have hf:=nk K S drop ls
 have hids:(aT n 16 (aQ K S drop ls)).map (·.id)=(aQ K S drop ls).map (·.1):=uq hg hs
 refine Ax _ _ (DK h.asc drop) (fun x hx y hy=>?_) (by rw [hids];exact hf.ids ▸ hf.nd)
 have hy2:y.id∈(aQ K S drop ls).map (·.1):=by rw [←hids];exact List.mem_map_of_mem hy
 obtain ⟨z,hz,hzy⟩:=List.mem_map.1 hy2
 obtain ⟨_,_,_,hno⟩:=hf.src z hz
 intro e
 have:kr S drop z.1=true:=h.stays.2 ⟨x,hx,by rw [e,hzy]⟩
 rw [hno] at this;cases this
theorem RL.next (h:RL K ps S PL U) (drop:List Int) (ls:List (List UInt8)) (hls:∀p∈ls,p.length≤67000000) {n:Int} (hg:cU n=true) (hn:∀q∈PL,q.1≠n) (hs:cH (aQ K S drop ls)):
   RL K ((fM PL drop n (aQ K S drop ls)).map (tW K)) (iM (bu S drop) (aT n 16 (aQ K S drop ls))) (fM PL drop n (aQ K S drop ls)) (U++ls):=by
 have hf:=nk K S drop ls
 obtain ⟨xs,hx⟩:∃xs,aQ K S drop ls=xs:=⟨_,rfl⟩
 have hx':(fS K S drop ls).1=xs:=hx
 rw [hx] at hs ⊢
 have hids:(aT n 16 xs).map (·.id)=xs.map (·.1):=uq hg hs
 have mem:∀q∈fM PL drop n xs,(q∈PL∧drop.contains q.1=false)∨(q=(n,xs)∧xs≠ []):=fun q hq=>by
   rcases List.mem_append.1 hq with hq | hq
   · have:=List.mem_filter.1 hq
     exact .inl ⟨this.1,by simpa using this.2⟩
   · split at hq
     · cases hq
     · rename_i hne
       exact .inr ⟨by simpa using hq,hne⟩
 refine ⟨rfl,fun q hq=>?_,?_,fun q hq=>?_,fun q hq x hx=>?_,GF (DK h.asc drop),?_,fun p hp=>?_⟩
 · rcases mem q hq with ⟨hq,_⟩ | ⟨rfl,_⟩
   · exact h.Da q hq
   · exact hg
 · unfold fM
   refine List.pairwise_append.2 ⟨h.diff.sublist List.filter_sublist,by split<;>simp,fun x hx y hy=>?_⟩
   split at hy
   · cases hy
   · simp only [List.mem_singleton] at hy
     rw [hy]
     exact hn x (List.mem_filter.1 hx).1
 · rcases mem q hq with ⟨hq,_⟩ | ⟨rfl,_⟩
   · exact h.small q hq
   · exact hs
 · rcases mem q hq with ⟨hq,_⟩ | ⟨rfl,_⟩
   · obtain ⟨p,hp,e⟩:=h.itm q hq x hx
     exact ⟨p,List.mem_append_left _ hp,e⟩
   · obtain ⟨p,hp,e,_⟩:=hf.src x (by rw [hx'];exact hx)
     exact ⟨p,List.mem_append_right _ hp,e⟩
 · have h1:=h.perm drop ls hg (by rw [hx];exact hs)
   rw [hx] at h1
   refine h1.trans ?_
   have h2:(bu S drop).Perm (qJ (PL.filter fun q=> !drop.contains q.1)):=by
     rw [←wW drop fun q hq=>⟨h.Da q hq,h.small q hq⟩]
     exact h.refs.filter _
   have h3:qJ (fM PL drop n xs)=qJ (PL.filter fun q=> !drop.contains q.1)++aT n 16 xs:=by
     unfold fM qJ
     rw [List.flatMap_append]
     split
     · rename_i h0;rw [h0];rfl
     · simp
   rw [h3]
   exact List.Perm.append_right _ h2
 · rcases List.mem_append.1 hp with hp | hp
   · exact h.len p hp
   · exact hls p hp
theorem RL.there (h:RL K ps S PL U) (drop:List Int) (ls:List (List UInt8)) {n:Int} (hg:cU n=true) (hs:cH (aQ K S drop ls)):
   (∀p∈ls,∃x∈iM (bu S drop) (aT n 16 (aQ K S drop ls)),x.id=idF K p)∧(drop=[]→∀x∈S,x∈iM (bu S drop) (aT n 16 (aQ K S drop ls))):=by
 have hp:=h.perm drop ls hg hs
 have hf:=nk K S drop ls
 refine ⟨fun p hpl=>?_,fun hd x hx=>hp.mem_iff.2 (List.mem_append_left _ (by rw [hd];exact List.mem_filter.2 ⟨hx,rfl⟩))⟩
 rcases hf.all p hpl with h1 | h1
 · rw [hf.ids] at h1
   have:idF K p∈(aT n 16 (aQ K S drop ls)).map (·.id):=by rw [uq hg hs];exact h1
   obtain ⟨x,hx,e⟩:=List.mem_map.1 this
   exact ⟨x,hp.mem_iff.2 (List.mem_append_right _ hx),e⟩
 · obtain ⟨x,hx,e⟩:=h.stays.1 h1
   exact ⟨x,hp.mem_iff.2 (List.mem_append_left _ hx),e⟩

theorem RL.at_ (h:RL K ps S PL U) {x:bq} (hx:x∈S):∃q∈PL,∃p∈U,x.pack=q.1∧x.id=idF K p∧yZ (aY K q.1 q.2) x=true∧Jg (aY K q.1 q.2) x=dA K 2 (idF K p) p:=by
 obtain ⟨q,hq,hxq⟩:=List.mem_flatMap.1 (h.refs.mem_iff.1 hx)
 obtain ⟨y,hy,h1,h2,h3,h4⟩:=Ds K (h.Da q hq) (h.small q hq) hxq
 obtain ⟨p,hp,rfl⟩:=h.itm q hq y hy
 exact ⟨q,hq,p,hp,h2,h1,h3,h4⟩
theorem Ey:∀ {PL:PkL},(qJ PL).length=(PL.map fun q=>q.2.length).sum
 | []=>rfl
 | q::PL=>by
   have:=Ey (PL:=PL)
   unfold qJ at this ⊢
   rw [List.flatMap_cons,List.length_append,fu,this];simp
end

end Go.Proofs.YtpmhjnhgpplmnaaGreatDoor
end

section
namespace Go.Proofs.YtpmhjnhgpplmnaaGreatDoor
open Go Sx
set_option maxRecDepth 8000

structure RO (K kf:List UInt8) (C:bR) (S:Refs) (PL:PkL) (U:List (List UInt8)) (L:List (Nm×Nat)) (Z:List (Nat×List UInt8)):Prop where
 rl:RL K C.aj S PL U
 key:∃i,(cO,i)∈L∧(i,kf)∈Z
 cat:∃i,(aV 99 C.gen,i)∈L∧(i,jI K C)∈Z
 pk:∀q∈PL,∃i,(ay q.1,i)∈L∧(i,aY K q.1 q.2)∈Z
 only:∀t∈L,t.1=cO∨t.1=aV 99 C.gen∨∃q∈PL,t.1=ay q.1
 chk:aH C=true
 cok:gE C
theorem RO.zs {K kf:List UInt8} {C:bR} {S:Refs} {PL:PkL} {U:List (List UInt8)} {L:List (Nm×Nat)} {Z Z':List (Nat×List UInt8)} (h:RO K kf C S PL U L Z) (hz:∀z∈Z,z∈Z'):RO K kf C S PL U L Z':=
 ⟨h.rl,let ⟨i,a,b⟩:=h.key;⟨i,a,hz _ b⟩,let ⟨i,a,b⟩:=h.cat;⟨i,a,hz _ b⟩,fun q hq=>let ⟨i,a,b⟩:=h.pk q hq;⟨i,a,hz _ b⟩,h.only,h.chk,h.cok⟩

theorem Aj {c:UInt8} {a b:Int} (ha:0≤a∧a≤1099511627776) (hb:0≤b∧b≤1099511627776) (h:aV c a=aV c b):a=b:=by
 obtain ⟨r,e,_,_,_,f⟩:=mB (c:=c) ha.1 ha.2
 obtain ⟨r',e',_,_,_,f'⟩:=mB (c:=c) hb.1 hb.2
 rw [e,e'] at h
 cases h
 omega
theorem Jb {a b:Int} (ha:cU a=true) (hb:cU b=true) (h:ay a=ay b):a=b:=Aj (c:=112) (dO.1 ha) (dO.1 hb) h
theorem ji {a b:UInt8} (hab:a≠b) (l m:List UInt8):a::l≠b::m:=fun h=>hab (by cases h;rfl)
theorem pI {b:UInt8} (hb:b≠99) (l:List UInt8):zi (b::l)=none:=by
 cases h:zi (b::l) with
 | none=>rfl
 | some x=>exact absurd (oF.1 h).2.2.symm (ji hb _ _)
theorem KD {next:Int} :∀ {Q:List PkD} {last:Int},oo next last Q=true→∀p∈Q,last<p.num∧p.num<next:=fun h p hp=>u7 h p hp
theorem RO.num {K kf:List UInt8} {C:bR} {S:Refs} {PL:PkL} {U:List (List UInt8)} {L:List (Nm×Nat)} {Z:List (Nat×List UInt8)} (h:RO K kf C S PL U L Z) {q:Int×List Itm} (hq:q∈PL):q.1<C.next:=by
 have hc:=h.chk
 unfold aH at hc
 simp only [Bool.and_eq_true] at hc
 exact (KD hc.2.2.2 (tW K q) (by rw [h.rl.aj];exact List.mem_map_of_mem hq)).2

section
variable {P:Dir→Prop} {K kf:List UInt8} {C:bR} {S:Refs} {PL:PkL} {U:List (List UInt8)} {L:List (Nm×Nat)} {Z:List (Nat×List UInt8)} {g:Int} {u c:Nat} {s:Int} {m:af} {n:Nm} {i:Nat} {b:List UInt8}

theorem Gf (h:SV P (VwD K L g Z) Z u c s m) (hd:m.down=false) (hL:(n,i)∈L) (hZ:(i,b)∈Z):bX m n=none∧cI m n=i∧(fileAt m.files i).data=b∧jO m n=b:=by
 have hf:findD m.now n=some ⟨n,i⟩:=h.cur.1 _ hL
 obtain ⟨h1,h2⟩:=oS hd h.wf hf
 have h3:(fileAt m.files i).data=b:=by rw [(h.frz _ hZ).2]
 have h2:cI m n=i:=h2
 exact ⟨h1,h2,h3,by unfold jO;rw [h1,h2,h3];rfl⟩
theorem L7 (ro:RO K kf C S PL U L Z) (sv:SV P (VwD K L g Z) Z u c s m) (hd:m.down=false) {id:List UInt8} (h:∃x∈S,x.id=id):∃p∈U,idF K p=id∧getM ⟨K,C,S,false⟩ m id=(none,p):=by
 obtain ⟨x,hx,rfl⟩:=h
 obtain ⟨q,hq,p,hp,h1,h2,h3,h4⟩:=ro.rl.at_ hx
 refine ⟨p,hp,h2.symm,?_⟩
 obtain ⟨i,hL,hZ⟩:=ro.pk q hq
 obtain ⟨r1,r2,r3,_⟩:=Gf sv hd hL hZ
 have hE:gM m (ay x.pack) x.at_ x.len=none:=by
   unfold gM
   rw [h1,r1,r2,r3]
   simp only
   rw [if_neg]
   unfold yZ at h3
   unfold nW
   simp only [Bool.and_eq_true,decide_eq_true_eq] at h3
   simp only [Bool.or_eq_true,decide_eq_true_eq,not_or]
   omega
 have hF:eV m (ay x.pack) x.at_ x.len=dA K 2 x.id p:=by
   have h5:eV m (ay x.pack) x.at_ x.len=((fileAt m.files (cI m (ay x.pack))).data.drop x.at_.toNat).take x.len.toNat:=by
     unfold eV;rw [hE];rfl
   rw [h5,h1,r2,r3,h2,←h4]
   unfold Jg
   rw [if_pos h3]
 have hl:=ro.rl.len p hp
 unfold getM
 rw [show kO ⟨K,C,S,false⟩ m=none by unfold kO;rw [hd];rfl]
 simp only
 rw [GW ro.rl.asc hx]
 simp only
 rw [hE,hF,xy K 2 x.id p (by omega)]
 simp only [Option.isSome_none,Bool.false_eq_true,if_false]
 rw [if_pos h2.symm]
end

section
variable {P W:Dir→Prop} {Z:List (Nat×List UInt8)} {u c:Nat} {s:Int} {m:af}
theorem Jl (h:SV P W Z u c s m) {n:Nm} (hP:∀d,P d→P (eT Ent.name d n)) (hW:∀d,W d→W (eT Ent.name d n)):SV P W Z u c s (bf n m).1∧(Calm m→Calm (bf n m).1):=by
 cases hd:m.down with
 | true=>
   have e:(bf n m).1=m:=by
     unfold bf
     split
     · unfold aL bX
       rw [hd];rfl
     · rfl
   rw [e]
   exact ⟨h,fun hc=>hc⟩
 | false=>
   have:=xM h hd (hP _ h.now) (hW _ h.cur)
   refine ⟨?_,fun hc=>(this.calm hc).2.1⟩
   cases he:(bf n m).2 with
   | none=>exact (this.ok he).1.1
   | some e=>exact this.no (by rw [he];simp)
theorem Gj:∀(ns:List Nm) {m:af},SV P W Z u c s m→(∀n∈ns,∀d,P d→P (eT Ent.name d n))→(∀n∈ns,∀d,W d→W (eT Ent.name d n))→SV P W Z u c s (dX ns m)∧(Calm m→Calm (dX ns m))
 | [],m,h,_,_=>⟨h,fun h=>h⟩
 | n::ns,m,h,hP,hW=>by
   obtain ⟨h1,h2⟩:=Jl h (hP n (by simp)) (hW n (by simp))
   obtain ⟨h3,h4⟩:=Gj ns h1 (fun x hx=>hP x (by simp [hx])) (fun x hx=>hW x (by simp [hx]))
   exact ⟨h3,fun hc=>h4 (h2 hc)⟩
end

def kU (K kf:List UInt8) (C:bR) (S:Refs) (PL:PkL) (U:List (List UInt8)) (u c:Nat) (s:Int) (m:af):Prop:=∃L Z,RO K kf C S PL U L Z∧SV (VwD K L C.gen Z) (VwD K L C.gen Z) Z u c s m
def K9 (K kf:List UInt8) (C:bR) (S:Refs) (PL:PkL) (U:List (List UInt8)) (C':bR) (S':Refs) (PL':PkL) (U':List (List UInt8)) (u c:Nat) (s:Int) (m:af):Prop:=
 ∃(P:Dir→Prop) (Z:List (Nat×List UInt8)),SV P (fun _=>True) Z u c s m∧∀d,P d→(∃L,RO K kf C S PL U L Z∧VwD K L C.gen Z d)∨(∃L,RO K kf C' S' PL' U' L Z∧VwD K L C'.gen Z d)

section
variable {K kf:List UInt8} {C:bR} {S:Refs} {PL:PkL} {U:List (List UInt8)} {L:List (Nm×Nat)} {Z:List (Nat×List UInt8)} {u c:Nat} {s:Int} {m:af}
theorem RO.Mu (ro:RO K kf C S PL U L Z):∀t∈L,t.1≠tN:=fun t ht=>by
 rcases ro.only t ht with h | h | ⟨q,_,h⟩<;>rw [h]
 · decide
 · exact ji (by decide) _ _
 · exact ji (by decide) _ _
theorem RO.JY (ro:RO K kf C S PL U L Z) {x:Int} (hx:0≤x∧x≤1099511627776) (hne:C.gen≠x):∀t∈L,t.1≠aV 99 x:=fun t ht=>by
 have hb:=bH ro.chk
 rcases ro.only t ht with h | h | ⟨q,_,h⟩<;>rw [h]
 · exact ji (by decide) _ _
 · exact fun e=>hne (Aj ⟨by omega,by omega⟩ hx e)
 · exact ji (by decide) _ _
theorem RO.Kr (ro:RO K kf C S PL U L Z) {x:Int} (hx:cU x=true) (hne:∀q∈PL,q.1≠x):∀t∈L,t.1≠ay x:=fun t ht=>by
 rcases ro.only t ht with h | h | ⟨q,hq,h⟩<;>rw [h]
 · exact ji (by decide) _ _
 · exact ji (by decide) _ _
 · exact fun e=>hne q hq (Jb (ro.rl.Da q hq) hx e)
theorem kU.tidy (h:kU K kf C S PL U u c s m) (ns:List Nm) (hn:∀L Z,RO K kf C S PL U L Z→∀n∈ns,∀t∈L,t.1≠n):kU K kf C S PL U u c s (dX ns m)∧(Calm m→Calm (dX ns m)):=by
 obtain ⟨L,Z,ro,sv⟩:=h
 obtain ⟨h1,h2⟩:=Gj ns sv (fun n hn' d h=>h.del (hn L Z ro n hn')) (fun n hn' d h=>h.del (hn L Z ro n hn'))
 exact ⟨⟨L,Z,ro,h1⟩,h2⟩
end

theorem AK {next n a b:Int} (ha:0≤a) (hb:0≤b):∀ {Q:List PkD} {last:Int},oo next last (Q++ [⟨n,0,0⟩])=true→oo next last (Q++ [⟨n,a,b⟩])=true
 | [],last,h=>by
   simp only [List.nil_append,oo,Bool.and_eq_true,decide_eq_true_eq] at h ⊢
   exact ⟨⟨h.1.1,h.1.2.1,ha,hb⟩,trivial⟩
 | q::Q,last,h=>by
   simp only [List.cons_append,oo,Bool.and_eq_true,decide_eq_true_eq] at h ⊢
   exact ⟨h.1,AK ha hb h.2⟩
theorem Fv {g x:Int} {st:gJ} {sn:List dY} {Q:List PkD} {n a b:Int} (ha:0≤a) (hb:0≤b) (h:aH ⟨g,x,st,sn,Q++ [⟨n,0,0⟩]⟩=true):aH ⟨g,x,st,sn,Q++ [⟨n,a,b⟩]⟩=true:=by
 unfold aH jL at h ⊢
 simp only [Bool.and_eq_true,decide_eq_true_eq,List.length_append,List.length_singleton] at h ⊢
 exact ⟨h.1,h.2.1,h.2.2.1,AK ha hb h.2.2.2⟩

def dy (K:List UInt8) (C:bR) (PL:PkL) (snaps:List dY) (drop:List Int) (xs:List Itm):bR:=⟨C.gen+1,if xs=[] then C.next else C.next+1,C.set,snaps,(fM PL drop C.next xs).map (tW K)⟩
section
variable {K kf:List UInt8} {C:bR} {S:Refs} {PL:PkL} {U:List (List UInt8)} {L:List (Nm×Nat)} {Z:List (Nat×List UInt8)} {u c:Nat} {s:Int} {m:af}
theorem Cu (drop:List Int) (PL:PkL):bB drop (PL.map (tW K))=(PL.filter fun q=> !drop.contains q.1).map (tW K):=by
 unfold bB
 rw [List.filter_map]
 rfl
theorem Jf (drop:List Int) (PL:PkL):cu drop (PL.map (tW K))=(PL.filter fun q=>drop.contains q.1).map (tW K):=by
 unfold cu
 rw [List.filter_map]
 rfl
theorem G7 {snaps:List dY} {drop:List Int} {xs:List Itm} (hp:C.aj=PL.map (tW K)) (hE:jK C snaps drop (decide (0<xs.length))=none):
   aH (dy K C PL snaps drop xs)=true∧cE C snaps drop (decide (0<xs.length))=⟨C.gen+1,if xs=[] then C.next else C.next+1,C.set,snaps,(PL.filter fun q=> !drop.contains q.1).map (tW K)++if xs=[] then [] else [⟨C.next,0,0⟩]⟩:=by
 have hx:(decide (0<xs.length)=true)↔¬xs=[]:=by rw [decide_eq_true_eq,List.length_pos_iff]
 have e:cE C snaps drop (decide (0<xs.length))=⟨C.gen+1,if xs=[] then C.next else C.next+1,C.set,snaps,(PL.filter fun q=> !drop.contains q.1).map (tW K)++if xs=[] then [] else [⟨C.next,0,0⟩]⟩:=by
   unfold cE
   rw [hp,Cu]
   by_cases h0:xs=[]
   · have:decide (0<xs.length)=false:=by rw [h0];rfl
     rw [this,if_pos h0,if_pos h0];rfl
   · rw [hx.2 h0,if_neg h0,if_neg h0];rfl
 refine ⟨?_,e⟩
 unfold jK at hE
 rw [e] at hE
 have hck:aH ⟨C.gen+1,if xs=[] then C.next else C.next+1,C.set,snaps,(PL.filter fun q=> !drop.contains q.1).map (tW K)++if xs=[] then [] else [⟨C.next,0,0⟩]⟩=true:=by
   obtain ⟨c0,hc0⟩:∃c0:bR,⟨C.gen+1,if xs=[] then C.next else C.next+1,C.set,snaps,(PL.filter fun q=> !drop.contains q.1).map (tW K)++if xs=[] then [] else [⟨C.next,0,0⟩]⟩=c0:=⟨_,rfl⟩
   rw [hc0] at hE ⊢
   cases hb:aH c0 with
   | true=>rfl
   | false=>
     rw [hb] at hE
     split at hE
     · cases hE
     · split at hE
       · cases hE
       · simp at hE
 unfold dy fM
 by_cases h0:xs=[]
 · simp only [if_pos h0,List.map_append] at hck ⊢
   exact hck
 · simp only [if_neg h0,List.map_append] at hck ⊢
   exact Fv (by omega) (by omega) hck

structure ApN (K:List UInt8) (C:bR) (PL:PkL) (S:Refs) (ls:List (List UInt8)) (snaps:List dY) (drop:List Int) (B E u c:Nat) (s:Int):Prop where
 next:jK C snaps drop (decide (0<(aQ K S drop ls).length))=none
 small:cH (aQ K S drop ls)
 len:∀p∈ls,p.length≤67000000
 snap:∀x∈snaps,x.size≤9223372036854775807
 pack:(aY K C.next (aQ K S drop ls)).length≤B
 enc:gE (dy K C PL snaps drop (aQ K S drop ls))→(jI K (dy K C PL snaps drop (aQ K S drop ls))).length≤E
 room:(u:Int)+B+E≤s
 cnt:c+2≤4096

theorem JI {ls:List (List UInt8)} {snaps:List dY} {drop:List Int} {B E:Nat} (ro:RO K kf C S PL U L Z) (sv:SV (VwD K L C.gen Z) (VwD K L C.gen Z) Z u c s m) (hd:m.down=false) (hn:ApN K C PL S ls snaps drop B E u c s) {xs:List Itm} (hxs:aQ K S drop ls=xs):
   Cn m (aX K (cE C snaps drop (decide (0<xs.length))) (bB drop C.aj) C.next xs m).1 (kU K kf (dy K C PL snaps drop xs) (iM (bu S drop) (aT C.next 16 xs)) (fM PL drop C.next xs) (U++ls) (u+B+E) (c+2) s) (kU K kf C S PL U (u+B+E) (c+2) s)
       (K9 K kf C S PL U (dy K C PL snaps drop xs) (iM (bu S drop) (aT C.next 16 xs)) (fM PL drop C.next xs) (U++ls) (u+B+E) (c+2) s)∧
     ((aX K (cE C snaps drop (decide (0<xs.length))) (bB drop C.aj) C.next xs m).1.2=none→(aX K (cE C snaps drop (decide (0<xs.length))) (bB drop C.aj) C.next xs m).2=(dy K C PL snaps drop xs,aT C.next 16 xs)):=by
 obtain ⟨hE,hs,hlen,hsnap,hB,hEn,hroom,hcnt⟩:=hn
 rw [hxs] at hE hs hB hEn
 obtain ⟨hck,hnx⟩:=G7 (PL:=PL) ro.rl.aj hE
 have hbd:=bH ro.chk
 have hbd2:=bH hck
 have hgp:cU C.next=true:=dO.2 ⟨hbd.2.1.1,hbd.2.1.2⟩
 have hnum:∀q∈PL,q.1≠C.next:=fun q hq=>by have:=ro.num hq;omega
 have hrl:RL K (dy K C PL snaps drop xs).aj (iM (bu S drop) (aT C.next 16 xs)) (fM PL drop C.next xs) (U++ls):=by
   have:=ro.rl.next drop ls hlen hgp hnum (by rw [hxs];exact hs)
   rw [hxs] at this;exact this
 have hblen:(aY K C.next xs).length≤90000000:=uk _ _ hs
 have hcok:gE (dy K C PL snaps drop xs):=by
   refine kH hck ⟨ro.cok.poly,hsnap,fun p hp=>?_⟩
   have hp:p∈(fM PL drop C.next xs).map (tW K):=hp
   obtain ⟨q,hq,rfl⟩:=List.mem_map.1 hp
   have h1:=uk K q.1 (hrl.small q hq)
   have h2:=(hrl.small q hq).num
   exact ⟨by show ((aY K q.1 q.2).length:Int)≤_;omega,by show (q.2.length:Int)≤_;omega⟩
 replace hEn:=hEn hcok
 have hgen:(dy K C PL snaps drop xs).gen=C.gen+1:=rfl
 have hno:∀t∈L,t.1≠aV 99 (C.gen+1):=ro.JY ⟨by omega,by rw [hgen] at hbd2;omega⟩ (by omega)
 -- what is there behind the change
 have done:∀ {L2:List (Nm×Nat)} {Z2:List (Nat×List UInt8)} {i:Nat},(∀t∈L,t∈L2)→(∀z∈Z,z∈Z2)→(i,jI K (dy K C PL snaps drop xs))∈Z2→(xs≠ []→∃j,(ay C.next,j)∈L2∧(j,aY K C.next xs)∈Z2)→
     ∃L',(∀t∈L',t∈(aV 99 (C.gen+1),i)::L2)∧RO K kf (dy K C PL snaps drop xs) (iM (bu S drop) (aT C.next 16 xs)) (fM PL drop C.next xs) (U++ls) L' Z2:=by
   intro L2 Z2 i hL hZ hi hj
   refine ⟨((aV 99 (C.gen+1),i)::L2).filter fun t=>decide (t.1=cO)||(decide (t.1=aV 99 (C.gen+1))||(fM PL drop C.next xs).any fun q=>t.1==ay q.1),fun t ht=>(List.mem_filter.1 ht).1,⟨hrl,?_,⟨i,by rw [hgen];exact List.mem_filter.2 ⟨List.mem_cons_self ..,by simp⟩,hi⟩,fun q hq=>?_,fun t ht=>?_,hck,hcok⟩⟩
   · obtain ⟨j,h1,h2⟩:=ro.key
     exact ⟨j,List.mem_filter.2 ⟨List.mem_cons_of_mem _ (hL _ h1),by simp⟩,hZ _ h2⟩
   · have keep:∀j,(ay q.1,j)∈L2→(ay q.1,j)∈((aV 99 (C.gen+1),i)::L2).filter fun t=>decide (t.1=cO)||(decide (t.1=aV 99 (C.gen+1))||(fM PL drop C.next xs).any fun q=>t.1==ay q.1):=fun j hj=>by
       refine List.mem_filter.2 ⟨List.mem_cons_of_mem _ hj,?_⟩
       have:((fM PL drop C.next xs).any fun x=>ay q.1==ay x.1)=true:=List.any_eq_true.2 ⟨q,hq,by simp⟩
       rw [this];simp
     rcases List.mem_append.1 hq with hq' | hq'
     · obtain ⟨j,h1,h2⟩:=ro.pk q (List.mem_filter.1 hq').1
       exact ⟨j,keep j (hL _ h1),hZ _ h2⟩
     · split at hq'
       · cases hq'
       · rename_i hne
         obtain ⟨j,h1,h2⟩:=hj hne
         have:q=(C.next,xs):=by simpa using hq'
         rw [this] at keep ⊢
         exact ⟨j,keep j h1,h2⟩
   · have h2:=(List.mem_filter.1 ht).2
     simp only [Bool.or_eq_true,decide_eq_true_eq,List.any_eq_true,beq_iff_eq] at h2
     exact h2
 -- the commit, out of what is seen ahead of it
 have commit:∀ {L2:List (Nm×Nat)} {Z1:List (Nat×List UInt8)} {u1 c1:Nat} {m1:af},SV (VwD K L C.gen Z1) (VwD K L2 C.gen Z1) Z1 u1 c1 s m1→m1.down=false→(∀t∈L,t∈L2)→(∀t∈L2,t.1≠tN)→(∀t∈L2,t.1≠aV 99 (C.gen+1))→(∀z∈Z,z∈Z1)→(xs≠ []→∃j,(ay C.next,j)∈L2∧(j,aY K C.next xs)∈Z1)→u1≤u+B→c1≤c+1→
     Cn m1 (aW K (dy K C PL snaps drop xs) m1) (kU K kf (dy K C PL snaps drop xs) (iM (bu S drop) (aT C.next 16 xs)) (fM PL drop C.next xs) (U++ls) (u+B+E) (c+2) s) (kU K kf C S PL U (u+B+E) (c+2) s)
       (K9 K kf C S PL U (dy K C PL snaps drop xs) (iM (bu S drop) (aT C.next 16 xs)) (fM PL drop C.next xs) (U++ls) (u+B+E) (c+2) s):=by
   intro L2 Z1 u1 c1 m1 h1 hd1 hLL ht hcn hz hj hu hc1
   have h:=Aa (C:=dy K C PL snaps drop xs) h1 hd1 hLL hgen hck hcok ht hcn (by omega) (by omega)
   refine (h.imp (fun m' q=>?_) (fun m' q=>?_) (fun m' q=>?_)).cn
   · obtain ⟨L',hL',ro'⟩:=done (L2:=L2) (Z2:=(m1.files.length,jI K (dy K C PL snaps drop xs))::Z1) (i:=m1.files.length) hLL (fun z hz'=>List.mem_cons_of_mem _ (hz z hz')) (List.mem_cons_self ..) (fun hne=>let ⟨j,a,b⟩:=hj hne;⟨j,a,List.mem_cons_of_mem _ b⟩)
     exact ⟨L',_,ro',q.imp (fun d h=>h.sub hL' (Int.le_refl _) (fun _ h=>h)) (fun d h=>h.sub hL' (Int.le_refl _) (fun _ h=>h)) (by omega) (by omega)⟩
   · obtain ⟨Z',hz',q⟩:=q
     exact ⟨L,Z',ro.zs fun z h=>hz' _ (hz z h),q.imp (fun _ h=>h) (fun d h=>h.sub hLL (Int.le_refl _) (fun _ h=>h)) (by omega) (by omega)⟩
   · obtain ⟨Z',hz',q⟩:=q
     refine ⟨_,Z',q.imp (fun _ h=>h) (fun _ h=>h) (by omega) (by omega),fun d hd=>?_⟩
     rcases hd with hd | ⟨hi,hd⟩
     · exact .inl ⟨L,ro.zs (fun z h=>hz' _ (hz z h)),hd⟩
     · obtain ⟨L',hL',ro'⟩:=done (L2:=L2) (Z2:=Z') (i:=m1.files.length) hLL (fun z h=>hz' _ (hz z h)) hi (fun hne=>let ⟨j,a,b⟩:=hj hne;⟨j,a,hz' _ b⟩)
       exact .inr ⟨L',ro',hd.sub hL' (Int.le_refl _) (fun _ h=>h)⟩
 by_cases h0:xs=[]
 · have e1:cE C snaps drop (decide (0<xs.length))=dy K C PL snaps drop xs:=by
     rw [hnx]
     unfold dy fM
     simp only [if_pos h0,List.map_append]
     rfl
   have e2:aX K (cE C snaps drop (decide (0<xs.length))) (bB drop C.aj) C.next xs m=(aW K (dy K C PL snaps drop xs) m,dy K C PL snaps drop xs,[]):=by
     rw [e1];unfold aX;rw [if_pos h0]
   rw [e2]
   exact ⟨commit sv hd (fun _ h=>h) ro.Mu hno (fun _ h=>h) (fun hne=>absurd h0 hne) (by omega) (by omega),fun _=>by rw [h0];rfl⟩
 · have e1:gh (cE C snaps drop (decide (0<xs.length))) (bB drop C.aj) ⟨C.next,((aY K C.next xs).length:Int),(xs.length:Int)⟩=dy K C PL snaps drop xs:=by
     rw [hnx,ro.rl.aj,Cu]
     unfold gh dy fM
     simp only [if_neg h0,List.map_append]
     rfl
   have e2:(aX K (cE C snaps drop (decide (0<xs.length))) (bB drop C.aj) C.next xs m).1=aP (bf (ay C.next) m) fun m=>aP (svA K C.next xs m) fun m=>aW K (dy K C PL snaps drop xs) m:=by
     unfold aX
     rw [if_neg h0,e1]
     unfold aP
     cases (bf (ay C.next) m).2 with
     | some e=>rfl
     | none=>simp only;cases (svA K C.next xs (bf (ay C.next) m).1).2<;>rfl
   have e3:(aX K (cE C snaps drop (decide (0<xs.length))) (bB drop C.aj) C.next xs m).1.2=none→(aX K (cE C snaps drop (decide (0<xs.length))) (bB drop C.aj) C.next xs m).2=(dy K C PL snaps drop xs,aT C.next 16 xs):=by
     unfold aX
     rw [if_neg h0,e1]
     cases (bf (ay C.next) m).2 with
     | some e=>intro h;cases h
     | none=>cases (svA K C.next xs (bf (ay C.next) m).1).2 with
       | some e=>intro h;cases h
       | none=>exact fun _=>rfl
   rw [e2]
   rw [e2] at e3
   have hnp:=ro.Kr hgp hnum
   have wide:∀ {u' c':Nat} {Z':List (Nat×List UInt8)} {m':af},(∀z∈Z,z∈Z')→SV (VwD K L C.gen Z) (VwD K L C.gen Z) Z' u' c' s m'→u'≤u+B+E→c'≤c+2→kU K kf C S PL U (u+B+E) (c+2) s m':=fun hz h hu hc=>
     ⟨L,_,ro.zs hz,h.imp (fun d h=>h.sub (fun _ h=>h) (Int.le_refl _) hz) (fun d h=>h.sub (fun _ h=>h) (Int.le_refl _) hz) hu hc⟩
   have torn:∀ {m':af},kU K kf C S PL U (u+B+E) (c+2) s m'→K9 K kf C S PL U (dy K C PL snaps drop xs) (iM (bu S drop) (aT C.next 16 xs)) (fM PL drop C.next xs) (U++ls) (u+B+E) (c+2) s m':=fun ⟨L,Z,ro,sv⟩=>
     ⟨_,Z,sv.imp (fun _ h=>h) (fun _ _=>trivial) (Nat.le_refl _) (Nat.le_refl _),fun d h=>.inl ⟨L,ro,h⟩⟩
   refine ⟨Cn.then (Q:=fun m1=>SV (VwD K L C.gen Z) (VwD K L C.gen Z) Z u c s m1∧findD m1.now (ay C.next)=none) ?_ fun m1 ⟨q1,f1⟩ hd1=>?_,e3⟩
   · exact (Hr.cm ((xM sv hd (sv.now.del hnp) (sv.cur.del hnp)).imp (fun _ h=>⟨h.1,h.2.1⟩) (fun _ h=>h)) (fun _ h=>wide (fun _ h=>h) h (by omega) (by omega)) (fun _ h=>torn (wide (fun _ h=>h) h (by omega) (by omega)))).cn
   have e4:svA K C.next xs m1=gq m1 (ay C.next) (dH K C.next xs):=by unfold svA;rw [if_pos hgp]
   have e5:(dH K C.next xs).flatten=aY K C.next xs:=rfl
   rw [e4]
   have hins:=q1.cur.ins q1.wf.dZ.asc hnp (pI (by decide) _) m1.files.length
   have hfind:findD (eD Ent.name m1.now ⟨ay C.next,m1.files.length⟩) (ay C.next)=some ⟨ay C.next,m1.files.length⟩:=by
     show dr Ent.name _ _=_
     rw [gO q1.wf.dZ.asc];simp
   have hsv:=LJ (ps:=dH K C.next xs) (W':=VwD K ((ay C.next,m1.files.length)::L) C.gen Z) q1 hd1 (IM hgp) f1 (by omega) (by rw [e5];omega) (q1.now.ins q1.wf.dZ.asc hnp (pI (by decide) _) _) (hins.add hfind) (fun d h=>h.sub (fun t ht=>List.mem_cons_of_mem _ ht) (Int.le_refl _) (fun _ h=>h))
   rw [e5] at hsv
   refine Cn.then (Q:=fun m2=>SV (VwD K L C.gen ((m1.files.length,aY K C.next xs)::Z)) (VwD K ((ay C.next,m1.files.length)::L) C.gen ((m1.files.length,aY K C.next xs)::Z)) ((m1.files.length,aY K C.next xs)::Z) (u+(aY K C.next xs).length) (c+1) s m2) ?_ fun m2 q2 hd2=>?_
   · refine (Hr.cm (hsv.imp (fun m2 ⟨h,_⟩=>h.imp (fun d h=>h.sub (fun _ h=>h) (Int.le_refl _) fun z hz=>List.mem_cons_of_mem _ hz) (fun d h=>h.sub (fun _ h=>h) (Int.le_refl _) fun z hz=>List.mem_cons_of_mem _ hz) (Nat.le_refl _) (Nat.le_refl _)) (fun _ h=>h)) (fun _ h=>?_) (fun _ h=>torn ?_)).cn
     · exact wide (fun _ h=>h) h (by omega) (by omega)
     · exact wide (fun _ h=>h) h (by omega) (by omega)
   refine commit q2 hd2 (fun t ht=>List.mem_cons_of_mem _ ht) (fun t ht=>?_) (fun t ht=>?_) (fun z hz=>List.mem_cons_of_mem _ hz) (fun _=>⟨m1.files.length,List.mem_cons_self ..,List.mem_cons_self ..⟩) (by omega) (by omega)
   · rcases List.mem_cons.1 ht with rfl | ht
     · exact ji (by decide) _ _
     · exact ro.Mu t ht
   · rcases List.mem_cons.1 ht with rfl | ht
     · exact ji (by decide) _ _
     · exact hno t ht

structure ApO (K kf:List UInt8) (C:bR) (S:Refs) (PL:PkL) (U:List (List UInt8)) (C':bR) (S':Refs) (PL':PkL) (U':List (List UInt8)) (u c:Nat) (s:Int) (m:af) (a:(af×Option Int)×gZ):Prop where
 er:a.1.2=none∨a.1.2=some 2∨a.1.2=some 1∨a.1.2=some 22
 ok:a.1.2=none→a.2=⟨K,C',S',false⟩∧kU K kf C' S' PL' U' u c s a.1.1
 io:a.1.2=some 2→a.2=⟨K,C,S,false⟩∧kU K kf C S PL U u c s a.1.1
 dn:a.1.2=some 1∨a.1.2=some 22→K9 K kf C S PL U C' S' PL' U' u c s a.1.1
 calm:Calm m→a.1.2=none∧Calm a.1.1
theorem I1 {ls:List (List UInt8)} {snaps:List dY} {drop:List Int} {B E:Nat} (hh:kU K kf C S PL U u c s m) (hd:m.down=false) (hn:ApN K C PL S ls snaps drop B E u c s) {xs:List Itm} (hxs:aQ K S drop ls=xs):
   ApO K kf C S PL U (dy K C PL snaps drop xs) (iM (bu S drop) (aT C.next 16 xs)) (fM PL drop C.next xs) (U++ls) (u+B+E) (c+2) s m (eR ⟨K,C,S,false⟩ m ls snaps drop):=by
 obtain ⟨L,Z,ro,sv⟩:=hh
 obtain ⟨hcm,hres⟩:=JI ro sv hd hn hxs
 obtain ⟨W,hW⟩:∃W,aX K (cE C snaps drop (decide (0<xs.length))) (bB drop C.aj) C.next xs m=W:=⟨_,rfl⟩
 have hE:=hn.next
 rw [hxs] at hE
 have hap:eR ⟨K,C,S,false⟩ m ls snaps drop=(match W.1.2 with
     | some e=>(((eM ⟨K,C,S,false⟩ W.1.1 e (decide (0<xs.length))).1,some e),(eM ⟨K,C,S,false⟩ W.1.1 e (decide (0<xs.length))).2)
     | none=>((dX (aV 99 C.gen::(cu drop C.aj).map fun p=>ay p.num) W.1.1,none),⟨K,W.2.1,iM (bu S drop) W.2.2,false⟩)):=by
   unfold eR
   rw [show kO ⟨K,C,S,false⟩ m=none by unfold kO;rw [hd];rfl]
   simp only
   rw [hxs,hE,hW]
   all_goals rfl
 rw [hW] at hcm hres
 rw [hap]
 obtain ⟨hck,_⟩:=G7 (PL:=PL) ro.rl.aj hE
 have hbd:=bH ro.chk
 have hbd2:=bH hck
 have hgp:cU C.next=true:=dO.2 ⟨hbd.2.1.1,hbd.2.1.2⟩
 have hnum:∀q∈PL,q.1≠C.next:=fun q hq=>by have:=ro.num hq;omega
 rcases hcm.er with he | he | he | he
 · obtain ⟨q,_⟩:=hcm.ok he
   rw [he]
   simp only
   rw [hres he]
   obtain ⟨h1,h2⟩:=q.tidy (aV 99 C.gen::(cu drop C.aj).map fun p=>ay p.num) fun L' Z' ro' n hn'=>by
     rcases List.mem_cons.1 hn' with rfl | hn'
     · exact ro'.JY ⟨by omega,by omega⟩ (by show C.gen+1≠C.gen;omega)
     · obtain ⟨p,hp,rfl⟩:=List.mem_map.1 hn'
       rw [ro.rl.aj,Jf] at hp
       obtain ⟨q0,hq0,rfl⟩:=List.mem_map.1 hp
       obtain ⟨hq1,hq2⟩:=List.mem_filter.1 hq0
       refine ro'.Kr (ro.rl.Da q0 hq1) fun q' hq'=>?_
       rcases List.mem_append.1 hq' with h | h
       · have h3:=(List.mem_filter.1 h).2
         intro e
         have h3:(!drop.contains q'.1)=true:=h3
         have e:q'.1=q0.1:=e
         rw [e,hq2] at h3
         cases h3
       · split at h
         · cases h
         · have:q'=(C.next,xs):=by simpa using h
           rw [this]
           exact fun e=>hnum q0 hq1 e.symm
   exact ⟨.inl rfl,fun _=>⟨rfl,h1⟩,fun h=>(by cases h),fun h=>(by rcases h with h | h<;>cases h),fun hc=>⟨rfl,h2 (hcm.calm hc).2⟩⟩
 · obtain ⟨q,_⟩:=hcm.io he
   rw [he]
   simp only
   unfold eM
   rw [if_neg (by decide)]
   refine ⟨.inr (.inl rfl),fun h=>(by cases h),fun _=>⟨rfl,?_⟩,fun h=>(by rcases h with h | h<;>cases h),fun hc=>by have:=(hcm.calm hc).1;rw [he] at this;cases this⟩
   have t1:∀ {m':af},kU K kf C S PL U (u+B+E) (c+2) s m'→kU K kf C S PL U (u+B+E) (c+2) s (dX [tN] m'):=fun h=>(h.tidy [tN] fun L' Z' ro' n hn'=>by
     rw [List.mem_singleton.1 hn'];exact ro'.Mu).1
   refine t1 ?_
   show kU K kf C S PL U _ _ _ (if _ then dX [ay C.next] _ else _)
   split
   · exact (q.tidy [ay C.next] fun L' Z' ro' n hn'=>by
       rw [List.mem_singleton.1 hn']
       exact ro'.Kr hgp hnum).1
   · exact q
 · obtain ⟨q,_⟩:=hcm.dn he
   rw [he]
   simp only
   unfold eM
   rw [if_pos (by decide)]
   exact ⟨.inr (.inr (.inl rfl)),fun h=>(by cases h),fun h=>(by cases h),fun _=>q,fun hc=>by have:=(hcm.calm hc).1;rw [he] at this;cases this⟩
 · have q:=hcm.dd he
   rw [he]
   simp only
   unfold eM
   rw [if_pos (by decide)]
   exact ⟨.inr (.inr (.inr rfl)),fun h=>(by cases h),fun h=>(by cases h),fun _=>q,fun hc=>by have:=(hcm.calm hc).1;rw [he] at this;cases this⟩
end

end Go.Proofs.YtpmhjnhgpplmnaaGreatDoor
end

section
namespace Go.Proofs.YtpmhjnhgpplmnaaGreatDoor
open Go Sx
set_option maxRecDepth 8000

theorem MU (K:List UInt8) {s:Int} (h:0≤s∧s≤67108864):SV (VwD K [] 0 []) (VwD K [] 0 []) [] 0 0 s (jH s):=by
 have e:∀k,replay (jH s).syn ((jH s).chs.take k)=[]:=fun k=>by show replay [] ([].take k)=[];rw [List.take_nil];rfl
 have v:VwD K [] 0 [] []:=⟨fun t ht=>(by cases ht),fun e he=>by cases he⟩
 exact ⟨GG h,fun z hz=>(by cases hz),fun k=>by rw [e];exact v,v,fun k=>by rw [e];exact ⟨Nat.le_refl _,Nat.le_refl _⟩,rfl⟩
theorem K3 (s:Int):Calm (jH s):=⟨rfl,rfl,rfl⟩

def fZ (st:gJ):bR:=⟨1,0,st,[],[]⟩
theorem CK (pw salt ms:List UInt8) {st:gJ} (hset:bz st=true) (hpo:st.poly<18446744073709551616) {s:Int} (hs0:s≤67108864) (hs:((iD pw salt ms).length:Int)+(jI (bw ms) (fZ st)).length≤s):
   (jy pw salt ms st (jH s)).2=none∧Calm (jy pw salt ms st (jH s)).1∧(jy pw salt ms st (jH s)).1.steps=9∧
     kU (bw ms) (iD pw salt ms) (fZ st) [] [] [] ((iD pw salt ms).length+(jI (bw ms) (fZ st)).length) 2 s (jy pw salt ms st (jH s)).1:=by
 obtain ⟨K,hK⟩:∃K,bw ms=K:=⟨_,rfl⟩
 obtain ⟨kf,hkf⟩:∃kf,iD pw salt ms=kf:=⟨_,rfl⟩
 rw [hK,hkf] at hs ⊢
 have hck:aH (fZ st)=true:=mO hset
 have hok:gE (fZ st):=kH hck ⟨hpo,by simp [fZ],by simp [fZ]⟩
 have e0:jy pw salt ms st (jH s)=aP (aM (jH s) cO) fun m=>aP (aO m cO [kf]) fun m=>aP (cV m cO) fun m=>aW K (fZ st) m:=by
   unfold jy;rw [hkf,hK];rfl
 rw [e0]
 have sv:=MU K (s:=s) ⟨by omega,hs0⟩
 have ha:gU Ent.name (jH s).now:=sv.wf.dZ.asc
 have hc0:=uO (n:=cO) (W':=fun d=>VwD K [(cO,0)] 0 [] d∧findD d tN=none) sv rfl (by decide) rfl (by decide) (sv.now.ins ha (fun t ht=>by cases ht) (pI (by decide) _) _)
   ⟨(sv.cur.ins ha (fun t ht=>by cases ht) (pI (by decide) _) _).add (by
     show dr Ent.name (eD Ent.name [] _) _=_
     rw [gO List.Pairwise.nil];rfl),by
     show dr Ent.name (eD Ent.name [] _) tN=none
     rw [gO List.Pairwise.nil];rfl⟩
 have el:(jH s).files.length=0:=rfl
 rw [el] at hc0
 have hh:Cm (1+(1+(1+(0+5+1)))) (jH s) (aP (aM (jH s) cO) fun m=>aP (aO m cO [kf]) fun m=>aP (cV m cO) fun m=>aW K (fZ st) m)
     (kU K kf (fZ st) [] [] [] (kf.length+(jI K (fZ st)).length) 2 s) (fun _=>True) (fun _=>True):=by
   refine Cm.then (hc0.cm (fun _ _=>trivial) (fun _ _=>trivial)) fun m1 ⟨q1,f1,a1⟩ hd1=>?_
   have h2:=uK (ps:=[kf]) q1 hd1 f1 a1 (fun z hz=>by cases hz) (by simp;omega)
   refine Cm.then (h2.cm (fun _ _=>trivial) (fun _ _=>trivial)) fun m2 ⟨q2,f2,a2⟩ hd2=>?_
   refine Cm.then ((Bp q2 hd2 f2 a2).cm (fun _ _=>trivial) (fun _ _=>trivial)) fun m3 ⟨q3,f3,a3⟩ hd3=>?_
   have ek:([]++ [kf].flatten:List UInt8)=kf:=by simp
   rw [ek] at a3
   have el3:0<m3.files.length:=(jf q3.wf f3).2.2.1
   have q4:=(q3.MR (jf q3.wf f3).2.2.1 a3).imp (P':=VwD K [] 0 [(0,kf)]) (W':=VwD K [(cO,0)] 0 [(0,kf)]) (u':=kf.length) (c':=1) (fun d h=>h.sub (fun _ h=>h) (Int.le_refl _) (fun z hz=>by cases hz)) (fun d h=>h.1.sub (fun _ h=>h) (Int.le_refl _) (fun z hz=>by cases hz)) (by simp) (by omega)
   have hno:wQ m3 tN=0:=by unfold wQ;rw [uy,q3.cur.2];rfl
   have hc:=Aa (g:=0) (C:=fZ st) q4 hd3 (fun t ht=>by cases ht) rfl hck hok (fun t ht=>by simp at ht;rw [ht];decide) (fun t ht=>by simp at ht;rw [ht];exact ji (by decide) _ _) (by omega) hs
   rw [hno] at hc
   refine hc.imp (fun m' q=>⟨[(aV 99 1,m3.files.length),(cO,0)],_,⟨⟨rfl,by simp,List.Pairwise.nil,by simp,by simp,List.Pairwise.nil,List.Perm.refl _,by simp⟩,⟨0,by simp,by simp⟩,⟨m3.files.length,by simp [fZ],by simp⟩,by simp,fun t ht=>?_,hck,hok⟩,q⟩) (fun _ _=>trivial) (fun _ _=>trivial)
   simp at ht
   rcases ht with rfl | rfl
   · exact .inr (.inl rfl)
   · exact .inl rfl
 obtain ⟨h1,h2,h3⟩:=hh.calm (K3 s)
 exact ⟨h1,h2,by rw [h3];rfl,(hh.ok h1).1⟩
end Go.Proofs.YtpmhjnhgpplmnaaGreatDoor
end

section
namespace Go.Proofs.YtpmhjnhgpplmnaaGreatDoor
open Go Sx
set_option maxRecDepth 8000

theorem BH (K:List UInt8) {C:bR} (h:gE C):(jI K C).length≤200+100*C.snaps.length+27*C.aj.length:=by
 have hp:=Ah h
 have h1:=lq (f:=nv) (k:=100) fun s hs=>pS (h.snaps s hs)
 have h2:=lq (f:=pkB) (k:=27) fun p hp=>B8 (h.aj p hp)
 have a1:=dS h.set.1
 have a2:=dS h.set.2.1
 have a3:=dS h.set.2.2.1
 have a4:=dS h.set.2.2.2
 have b1:=h.sn
 have b2:=h.pn
 have a5:=dS (z:=(C.snaps.length:Int)) ⟨by omega,by omega⟩
 have a6:=dS (z:=(C.aj.length:Int)) ⟨by omega,by omega⟩
 rw [jI,fW _ _ _ _ (by omega)]
 simp only [mA,dm,cQ,List.map_cons,List.map_nil,List.flatten_cons,List.flatten_nil,List.append_nil,List.length_append,kF]
 omega
theorem Ae:∀ {xs:List Itm},(∀x∈xs,x.1.length=32∧x.2.length≤67108832)→(xs.map dM).flatten.length≤42*xs.length+(xs.map fun x=>x.2.length).sum
 | [],_=>by simp
 | x::xs,h=>by
   have h0:=h x (by simp)
   have:=(su x h0.1 h0.2).2
   have ih:=Ae (xs:=xs) fun y hy=>h y (by simp [hy])
   simp only [List.map_cons,List.flatten_cons,List.length_append,List.length_cons,List.sum_cons]
   omega
theorem HC (K:List UInt8) (num:Int) {xs:List Itm} (h:cH xs):(aY K num xs).length≤80+90*xs.length+(xs.map fun x=>x.2.length).sum:=by
 have hn:=h.num
 have h1:=Ae (xs:=xs) fun x hx=>⟨h.idl x hx,by have:=h.fD hx;omega⟩
 have h2:(eY (aT num 16 xs)).length=48*xs.length:=by rw [gV,fu]
 have h3:(dA K 3 (fA (n64 num)) (eY (aT num 16 xs))).length=48*xs.length+45:=by rw [fW _ _ _ _ (by omega),h2]
 have h4:(gu K num (aT num 16 xs)).length≤48*xs.length+45+10:=by
   unfold gu kD
   have:=ff 9 (dA K 3 (fA (n64 num)) (eY (aT num 16 xs))).length (by rw [h3];omega) (by decide)
   simp only [List.length_cons,List.length_append]
   omega
 rw [vM]
 simp only [List.length_append,jY]
 omega

theorem AA (K:List UInt8) (S:Refs) (drop:List Int):∀(ls:List (List UInt8)) (st:List Itm×List (List UInt8)),(∀p∈ls,p.length≤67000000)→
   ((ls.foldl (bJ K S drop) st).1.map fun x=>x.2.length).sum≤(st.1.map fun x=>x.2.length).sum+(ls.map fun p=>p.length+45).sum
 | [],st,_=>by simp
 | p::ls,st,h=>by
   have hp:=h p (by simp)
   have ih:=AA K S drop ls (bJ K S drop st p) fun q hq=>h q (by simp [hq])
   rw [List.foldl_cons]
   refine Nat.le_trans ih ?_
   have h1:((bJ K S drop st p).1.map fun x=>x.2.length).sum≤(st.1.map fun x=>x.2.length).sum+(p.length+45):=by
     unfold bJ
     split
     · omega
     · simp only [List.map_append,List.sum_append,List.map_cons,List.map_nil,List.sum_cons,List.sum_nil]
       rw [fW _ _ _ _ (by omega)]
       omega
   simp only [List.map_cons,List.sum_cons]
   omega
theorem CH (K:List UInt8) (S:Refs) (drop:List Int) {ls:List (List UInt8)} (hl:ls.length≤4096) {t:Nat} (hs:(ls.map fun p=>p.length+45).sum≤t) (ht:t≤16777216) (hp:∀p∈ls,p.length≤67000000):
   cH (aQ K S drop ls)∧(aQ K S drop ls).length≤ls.length∧((aQ K S drop ls).map fun x=>x.2.length).sum≤t:=by
 have h1:=(yE K S drop ls).1
 have h2:=AA K S drop ls ([],[]) hp
 have hf:=nk K S drop ls
 simp only [List.map_nil,List.sum_nil,Nat.zero_add] at h2
 have h2:((aQ K S drop ls).map fun x=>x.2.length).sum≤(ls.map fun p=>p.length+45).sum:=h2
 have h1:(aQ K S drop ls).length≤ls.length:=h1
 refine ⟨⟨by omega,fun x hx=>?_,by omega⟩,h1,by omega⟩
 obtain ⟨p,_,rfl,_⟩:=hf.src x hx
 simp [I8,idF]

section
variable {K kf:List UInt8} {C:bR} {S:Refs} {PL:PkL} {U:List (List UInt8)} {L:List (Nm×Nat)} {Z:List (Nat×List UInt8)} {u c:Nat} {s:Int} {m:af}
theorem F2 {ls:List (List UInt8)} {snaps:List dY} {drop:List Int} {B E:Nat} (hh:kU K kf C S PL U u c s m) (hc:Calm m) (hn:ApN K C PL S ls snaps drop B E u c s) {xs:List Itm} (hxs:aQ K S drop ls=xs):
   (eR ⟨K,C,S,false⟩ m ls snaps drop).1.2=none∧(eR ⟨K,C,S,false⟩ m ls snaps drop).2=⟨K,dy K C PL snaps drop xs,iM (bu S drop) (aT C.next 16 xs),false⟩∧Calm (eR ⟨K,C,S,false⟩ m ls snaps drop).1.1∧
     kU K kf (dy K C PL snaps drop xs) (iM (bu S drop) (aT C.next 16 xs)) (fM PL drop C.next xs) (U++ls) (u+B+E) (c+2) s (eR ⟨K,C,S,false⟩ m ls snaps drop).1.1:=by
 have h:=I1 hh hc.d hn hxs
 obtain ⟨h1,h2⟩:=h.calm hc
 exact ⟨h1,(h.ok h1).1,h2,(h.ok h1).2⟩
theorem kU.get (h:kU K kf C S PL U u c s m) (hd:m.down=false) {id:List UInt8} (hx:∃x∈S,x.id=id):∃p∈U,idF K p=id∧getM ⟨K,C,S,false⟩ m id=(none,p):=by
 obtain ⟨L,Z,ro,sv⟩:=h
 exact L7 ro sv hd hx
end

end Go.Proofs.YtpmhjnhgpplmnaaGreatDoor
end

section
namespace Go.Proofs.YtpmhjnhgpplmnaaGreatDoor
open Go Sx
set_option maxRecDepth 8000
set_option maxRecDepth 100000

theorem MH:dI ((iL [97,109,112,104,111,114,97]).map (· ^^^0x36)++ [0,0,0,0,0,0,0,0,0,0,0,0,0,0,0,0,0,0,0,0,0,0,0,0,0,0,0,0,0,0,0,0])=[65,242,217,117,182,129,77,157,215,138,19,17,116,216,109,90,102,61,46,124,114,62,120,50,37,128,242,0,3,150,40,31]:=by kernel_rfl
theorem Nk:dI ((iL [97,109,112,104,111,114,97]).map (· ^^^0x5c)++ [65,242,217,117,182,129,77,157,215,138,19,17,116,216,109,90,102,61,46,124,114,62,120,50,37,128,242,0,3,150,40,31])=[129,106,226,39,217,136,16,164,180,168,13,188,145,244,89,81,119,28,222,246,48,109,150,2,75,137,132,209,6,73,109,10]:=by kernel_rfl
theorem OO:dw [97,109,112,104,111,114,97] [0,0,0,0,0,0,0,0,0,0,0,0,0,0,0,0,0,0,0,0,0,0,0,0,0,0,0,0,0,0,0,0]=[129,106,226,39,217,136,16,164,180,168,13,188,145,244,89,81,119,28,222,246,48,109,150,2,75,137,132,209,6,73,109,10]:=by rw [dw,MH,Nk]
theorem MW:dI ((iL [129,106,226,39,217,136,16,164,180,168,13,188,145,244,89,81,119,28,222,246,48,109,150,2,75,137,132,209,6,73,109,10]).map (· ^^^0x36)++ [110,97,109,101,1])=[22,139,4,161,31,59,184,132,40,238,176,20,103,218,216,163,83,213,214,119,238,40,166,160,156,32,212,68,85,138,63,118]:=by kernel_rfl
theorem Nq:dI ((iL [129,106,226,39,217,136,16,164,180,168,13,188,145,244,89,81,119,28,222,246,48,109,150,2,75,137,132,209,6,73,109,10]).map (· ^^^0x5c)++ [22,139,4,161,31,59,184,132,40,238,176,20,103,218,216,163,83,213,214,119,238,40,166,160,156,32,212,68,85,138,63,118])=[7,139,77,61,47,22,65,103,17,8,176,127,153,15,20,246,109,235,124,164,0,98,133,2,247,161,189,165,33,209,36,24]:=by kernel_rfl
theorem OH:dw [129,106,226,39,217,136,16,164,180,168,13,188,145,244,89,81,119,28,222,246,48,109,150,2,75,137,132,209,6,73,109,10] [110,97,109,101,1]=[7,139,77,61,47,22,65,103,17,8,176,127,153,15,20,246,109,235,124,164,0,98,133,2,247,161,189,165,33,209,36,24]:=by rw [dw,MW,Nq]
theorem Nb:dI ((iL [7,139,77,61,47,22,65,103,17,8,176,127,153,15,20,246,109,235,124,164,0,98,133,2,247,161,189,165,33,209,36,24]).map (· ^^^0x36)++ [5,99,104,117,110,107,1,120])=[171,52,144,58,196,177,39,209,208,70,35,84,76,248,243,22,189,248,95,154,185,107,32,228,19,131,169,243,251,152,69,81]:=by kernel_rfl
theorem MK:dI ((iL [7,139,77,61,47,22,65,103,17,8,176,127,153,15,20,246,109,235,124,164,0,98,133,2,247,161,189,165,33,209,36,24]).map (· ^^^0x5c)++ [171,52,144,58,196,177,39,209,208,70,35,84,76,248,243,22,189,248,95,154,185,107,32,228,19,131,169,243,251,152,69,81])=[245,254,199,224,181,16,60,4,191,101,254,34,69,192,159,100,28,158,7,228,78,108,243,135,28,33,254,26,11,31,177,188]:=by kernel_rfl
theorem Ph:dw [7,139,77,61,47,22,65,103,17,8,176,127,153,15,20,246,109,235,124,164,0,98,133,2,247,161,189,165,33,209,36,24] [5,99,104,117,110,107,1,120]=[245,254,199,224,181,16,60,4,191,101,254,34,69,192,159,100,28,158,7,228,78,108,243,135,28,33,254,26,11,31,177,188]:=by rw [dw,Nb,MK]
theorem MB:dI ((iL [7,139,77,61,47,22,65,103,17,8,176,127,153,15,20,246,109,235,124,164,0,98,133,2,247,161,189,165,33,209,36,24]).map (· ^^^0x36)++ [5,99,104,117,110,107,1,121])=[28,155,17,157,88,166,252,125,248,249,153,32,184,172,42,60,210,154,50,207,156,169,117,185,253,190,185,1,37,201,66,237]:=by kernel_rfl
theorem MD:dI ((iL [7,139,77,61,47,22,65,103,17,8,176,127,153,15,20,246,109,235,124,164,0,98,133,2,247,161,189,165,33,209,36,24]).map (· ^^^0x5c)++ [28,155,17,157,88,166,252,125,248,249,153,32,184,172,42,60,210,154,50,207,156,169,117,185,253,190,185,1,37,201,66,237])=[128,146,41,163,209,215,6,198,115,241,6,122,23,250,45,179,65,181,116,27,179,143,208,73,72,196,167,220,87,3,255,7]:=by kernel_rfl
theorem OK:dw [7,139,77,61,47,22,65,103,17,8,176,127,153,15,20,246,109,235,124,164,0,98,133,2,247,161,189,165,33,209,36,24] [5,99,104,117,110,107,1,121]=[128,146,41,163,209,215,6,198,115,241,6,122,23,250,45,179,65,181,116,27,179,143,208,73,72,196,167,220,87,3,255,7]:=by rw [dw,MB,MD]

def jl:List UInt8:=[0,0,0,0,0,0,0,0,0,0,0,0,0,0,0,0,0,0,0,0,0,0,0,0,0,0,0,0,0,0,0,0]
theorem xR:lp (bw jl)=[7,139,77,61,47,22,65,103,17,8,176,127,153,15,20,246,109,235,124,164,0,98,133,2,247,161,189,165,33,209,36,24]:=by
 have h1:jq oh jl [110,97,109,101]=[7,139,77,61,47,22,65,103,17,8,176,127,153,15,20,246,109,235,124,164,0,98,133,2,247,161,189,165,33,209,36,24]:=by
   rw [I2]
   have:dw oh jl=[129,106,226,39,217,136,16,164,180,168,13,188,145,244,89,81,119,28,222,246,48,109,150,2,75,137,132,209,6,73,109,10]:=OO
   rw [this]
   exact OH
 rw [lp,bw,List.drop_left' (by simp),List.take_of_length_le (by simp),h1]
theorem Io:idF (bw jl) [120]=[245,254,199,224,181,16,60,4,191,101,254,34,69,192,159,100,28,158,7,228,78,108,243,135,28,33,254,26,11,31,177,188]:=by
 have h1:bN [[99,104,117,110,107],[120]]=[5,99,104,117,110,107,1,120]:=by kernel_rfl
 rw [idF,xR,h1,Ph]
theorem HN:idF (bw jl) [121]=[128,146,41,163,209,215,6,198,115,241,6,122,23,250,45,179,65,181,116,27,179,143,208,73,72,196,167,220,87,3,255,7]:=by
 have h1:bN [[99,104,117,110,107],[121]]=[5,99,104,117,110,107,1,121]:=by kernel_rfl
 rw [idF,xR,h1,OK]
theorem yQ:idF (bw jl) [120]≠idF (bw jl) [121]:=by
 rw [Io,HN]
 decide

end Go.Proofs.YtpmhjnhgpplmnaaGreatDoor
end

section
namespace Go.Proofs.YtpmhjnhgpplmnaaGreatDoor
open Go Go.Proofs.YtpmhjnhgpplmnaaGreatDoor.Sx
set_option maxRecDepth 100000
variable (w:World) (R:Ending→World→Prop)
theorem nL (h:Alz 44 w fun a b=>∃c:World→Prop,c b.drew∧∃d,(∀a,c a→(Instr.build 44 #[(0,.int .u64 283),(1,.int .i64 1),(2,.int .i64 1),(3,.int .i64 4),(4,.int .i64 8)]).run Tryz.prog a=.ok (.agg d) a)∧Mkz 26 (.int .i64 48) (.int .i64 48) b.drew (fun b e f g=>∃h:World→Prop,(∀a,h a→c a)∧h g∧Stz 44 a 0 (.agg d) g fun c=>∃d,(loadVar 44 ⟨a,0,none⟩).run Tryz.prog c=.ok d c∧R (.returned (.tuple #[d,.slice b e f])) c)∧Stz 44 a 0 (.agg d) b.drew fun b=>Mkz 26 (.int .i64 48) (.int .i64 48) b fun b d e f=>∃g:World→Prop,(∀a,g a→c a)∧g f∧∃c,(loadVar 44 ⟨a,0,none⟩).run Tryz.prog f=.ok c f∧R (.returned (.tuple #[c,.slice b d e])) f):Calls Tryz.prog 124 #[] w R:=aa 0x22100317214420031424721680352017c Tryz.func124 (by kernel_rfl) h
theorem nJ (h:Calls Tryz.prog 124 #[] w fun a b=>∃c d e f,a=.returned (.tuple #[.agg c,.slice d e f])∧Alz 44 b fun a b=>Stz 44 a 0 (.agg c) b fun b=>C2z 55 #[.int .i64 10000] b fun b c g=>∃h:Bool→World→Prop,Nez .neq 58 (.tmp 17) c g (fun a=>Ifz a (h true g) (Eqz .eql 51 (.tmp 20) (.const (.pointer none)) b (.pointer none) g (fun a=>h a g)))∧∀c g,h c g→Ifz c (R (.returned (.bool false)) g) (C2z 21 #[b,.string (ByteArray.mk #[120])] g (fun c g h=>Laz 44 a 0 h fun a=>C2z 54 #[b,.string (ByteArray.mk #[120]),.slice d e f,.agg a] h fun a c d=>∃e:Bool→World→Prop,Eqz .neq 58 (.tmp 35) (.tmp 36) g (.iface 65 (.int .i64 21)) d (fun f=>Ifz f (e true d) (Nez .neq 58 (.tmp 39) c d (fun c=>Ifz c (e true d) (Eqz .eql 52 (.tmp 43) (.const (.pointer none)) a (.pointer none) d (fun a=>Ifz a (e true d) (Ciz 61 #[b] d (fun a b=>e (a != (9:Int)) b)))))))∧∀b c,e b c→Ifz b (R (.returned (.bool false)) c) (Bsz 26 1 #[(0,.int .u8 120)] c (fun b c d e=>Cvz 26 26 (.slice b c d) e fun b c d e=>Bsz 26 1 #[(0,.int .u8 121)] e fun e f g h=>Cvz 26 26 (.slice e f g) h fun e f g h=>Bsz 26 1 #[(0,.int .u8 120)] h fun h i j k=>Cvz 26 26 (.slice h i j) k fun h i j k=>Bsz 24 3 #[(0,.slice b c d),(1,.slice e f g),(2,.slice h i j)] k fun b c d e=>Cvv 49 #[a,.slice b c d,.slice none 0 0,.slice none 0 0] e fun b c=>Caz 53 #[a] c fun c d=>Bsz 26 1 #[(0,.int .u8 121)] d fun d e f g=>Cvz 26 26 (.slice d e f) g fun d e f g=>Caz 69 #[.agg c,.slice d e f] g fun c d=>C4z 51 #[a,.agg c] d fun c d e f g=>Nez .eql 58 (.tmp 70) b g fun b=>Ifz b (Nez .eql 58 (.tmp 73) f g (fun b=>Ifz b (∃b,(convert 26 9 (.slice c d e)).run Tryz.prog g=.ok (.string b) g∧Ifz (b.toList==(ByteArray.mk #[121]).toList) (Clz 43 #[a] g (fun b c d e=>Ifz ((c:Int)==2) (Caz 16 #[a] e (fun a b=>∃c,(Instr.field 47 (.agg a) 0).run Tryz.prog b=.ok (.int .i64 c) b∧R (.returned (.bool (c==(2:Int)))) b)) (R (.returned (.bool false)) e))) (R (.returned (.bool false)) g)) (R (.returned (.bool false)) g))) (R (.returned (.bool false)) g)))))):Calls Tryz.prog 45 #[] w R:=aa 0x2d2029201c20620e0381411afc4271411a9ce53119ccd431198c1431c05297248147575814dc01914757575757575751c001d30d01410425ecd43101825acd43101c24ec143d14116a1284b1a22052992483dc05299241c001d3014310e2bc143114112e16291a220529924c0167e7824c1d Tryz.func45 (by kernel_rfl) h
theorem lM (a:ByteArray) (b:Option Addr) (c d:Nat) (e:Array Value) (h:Bxz 44 (.agg e) w fun e f=>Cbz 45 #[] f fun f g=>Ifz (!f) (R (.returned (.bool false)) g) (Ifz (decide ((a.size:Int)>5000)||decide ((c:Int)>5000)) (R (.returned (.bool true)) g) (Buz 87 #[] g (fun f=>C4z 51 #[.pointer none,.agg f] g fun f g h i j=>∃f:Bool→World→Prop,Eqz .neq 58 (.tmp 35) (.tmp 36) i (.iface 65 (.int .i64 28)) j (fun a=>Ifz a (f true j) (Cvv 49 #[.pointer none,.slice none 0 0,.slice none 0 0,.slice none 0 0] j (fun a b=>Eqz .neq 58 (.tmp 40) (.tmp 41) a (.iface 65 (.int .i64 28)) b fun a=>Ifz a (f true b) (Buz 87 #[] b (fun a=>Cbz 52 #[.pointer none,.agg a] b fun a b=>Ifz a (f true b) (Clz 43 #[.pointer none] b (fun a b c d=>Ifz ((b:Int) != 0) (f true d) (Clz 22 #[.pointer none] d (fun a b c d=>Ifz ((b:Int) != 0) (f true d) (Caz 53 #[.pointer none] d (fun a b=>Buz 41 #[] b fun c=>Eqz .neq 41 (.tmp 63) (.tmp 64) (.agg a) (.agg c) b fun a=>Ifz a (f true b) (Caz 16 #[.pointer none] b (fun a b=>∃c,(Instr.field 47 (.agg a) 0).run Tryz.prog b=.ok (.int .i64 c) b∧f (c != (0:Int)) b)))))))))))))∧∀g h,f g h→Ifz g (R (.returned (.bool false)) h) (Laz 44 e 0 h (fun f=>C2z 54 #[.pointer none,.string a,.slice b c d,.agg f] h fun f g h=>C2z 21 #[.pointer none,.string a] h fun f h i=>∃f:Bool→World→Prop,Eqz .neq 58 (.tmp 85) (.tmp 86) g (.iface 65 (.int .i64 28)) i (fun a=>Ifz a (f true i) (Eqz .neq 58 (.tmp 89) (.tmp 90) h (.iface 65 (.int .i64 28)) i (fun a=>f a i)))∧∀g h,f g h→Ifz g (R (.returned (.bool false)) h) (C2z 55 #[.int .i64 10000] h (fun f g h=>Laz 44 e 0 h fun g=>C2z 54 #[f,.string a,.slice b c d,.agg g] h fun b d g=>Ifz (decide ((a.size:Int)<1)||decide ((a.size:Int)>1024)||(c:Int) != 48) (Eqz .eql 52 (.tmp 119) (.const (.pointer none)) b (.pointer none) g (fun a=>Ifz a (Eqz .eql 58 (.tmp 122) (.tmp 123) d (.iface 65 (.int .i64 28)) g (fun a=>R (.returned (.bool a)) g)) (R (.returned (.bool false)) g))) (Laz 44 e 0 g (fun c=>Ciz 56 #[.agg c] g fun c e=>Ifz (c != (0:Int)) (Eqz .eql 52 (.tmp 130) (.const (.pointer none)) b (.pointer none) e (fun a=>Ifz a (Eqz .eql 58 (.tmp 133) (.tmp 134) d (.iface 65 (.int .i64 11)) e (fun a=>R (.returned (.bool a)) e)) (R (.returned (.bool false)) e))) (C4z 57 #[f,.string (ByteArray.mk #[107,101,121])] e (fun c e g h i=>∃j,(dK .add 9 (.tmp 143) (.const (.string (ByteArray.mk #[120]))) (.string a) (.string (ByteArray.mk #[120]))).run Tryz.prog i=.ok (.string j) i∧Calls Tryz.prog 58 #[.string j,.slice c e g] i fun c e=>∃g i,c=.returned (.tuple #[.agg g,.int .i64 i])∧Alz 39 e fun c e=>Stz 39 c 0 (.agg g) e fun c=>Ifz (i==(0:Int)) (Eqz .neq 52 (.tmp 151) (.const (.pointer none)) b (.pointer none) c (fun a=>Ifz a (Nez .eql 58 (.tmp 154) d c (fun a=>Ifz a (Nez .eql 58 (.tmp 158) h c (fun a=>R (.returned (.bool a)) c)) (R (.returned (.bool false)) c))) (R (.returned (.bool false)) c))) (∃e,(dK .add 9 (.tmp 163) (.const (.string (ByteArray.mk #[120]))) (.string a) (.string (ByteArray.mk #[120]))).run Tryz.prog c=.ok (.string e) c∧C2z 21 #[f,.string e] c fun a c e=>Eqz .neq 52 (.tmp 168) (.const (.pointer none)) b (.pointer none) e fun a=>Ifz a (Nez .eql 58 (.tmp 171) d e (fun a=>Ifz a (Nez .eql 58 (.tmp 175) h e (fun a=>Ifz a (Ciz 37 #[c] e (fun a b=>R (.returned (.bool (a==i))) b)) (R (.returned (.bool false)) e))) (R (.returned (.bool false)) e))) (R (.returned (.bool false)) e)))))))))))))):Calls Tryz.prog 9 #[.string a,.slice b c d,.agg e] w R:=aa 0x1e201a206204201412eacd4312decd4312dac1431c042992453dc0001820420d4312bdcd4312b9c1431c32d20167e08241531c05297241c000520d43d28cc1431c30d01483c00520d43d1f9c1431c3013b13b42c82052992483ec0529924c001d30143d0421b8c143d14111bc1181ad1a2205299241c042992483dc001d30d03814105218bcd4383814101b27dc42714102926fc42714102f269cd41483103c25ccd431914104a24ec143d141119814e4b1a220529724831c1d001d303b42c2001d301414c2017c Tryz.func9 (by kernel_rfl) h
end Go.Proofs.YtpmhjnhgpplmnaaGreatDoor
end

section
namespace Go.Proofs.YtpmhjnhgpplmnaaGreatDoor
open Go Sx
set_option maxRecDepth 8000

section
variable {w0 w w':World} {N:List Res} {gd:Nat} {ps:List Nat} {m:af}
def Lh (pw:ByteArray) (m:af):Option Int:=if bM pw then La (bG pw) m else some 28
theorem Ej (pw:ByteArray) {e:Int} (h:ah w0 [] w gd ps m N) (hd:m.down=false) (hK:cR w0) (hT:jr w0) (hE:rV w0) (he:Lh pw m=some e):
   Calls Tryz.prog 21 #[pV gd,.string pw] w fun r w'=>r=.returned (.tuple #[.pointer none,bk (some e)])∧Chg [] w w':=by
 obtain ⟨mI,hI⟩:=eI
 unfold Lh at he
 apply BS
 refine (lS pw w).mono ?_
 rintro r w1 ⟨rfl,rfl⟩
 refine ⟨_,rfl,fun hbad=>?_,fun hgood=>(uz h).mono ?_⟩
 · have hb:bM pw=false:=by simpa using hbad
   rw [hb] at he
   obtain rfl:(28:Int)=e:=by simpa using he
   exact ⟨rfl,Chg.refl _ _⟩
 have hg:bM pw=true:=by simpa using hgood
 rw [hg] at he
 rintro r w2 ⟨rfl,rfl⟩
 refine ⟨_,rfl,fun hbad=>(by rw [hd] at hbad;cases hbad),fun _=>⟨_,vG gd w2,(ES pw h hd hK hT hE he).mono ?_⟩⟩
 rintro r w3 ⟨rfl,c3⟩
 exact ⟨_,_,rfl,_,au hI (some e) _ _,fun _=>⟨rfl,c3⟩,fun h=>(by cases h)⟩
end


theorem Mg (w:World):(zeroValue 44).run Tryz.prog w=.ok (.agg (cq ⟨0,0,0,0,0⟩).toArray) w:=Tryz.zeroValue44 w
theorem qS (s:gJ):∀v∈cq s,v.oneCell'=true:=fun v hv=>by
 simp only [cq,List.mem_cons,List.not_mem_nil,or_false] at hv
 rcases hv with rfl | rfl | rfl | rfl | rfl<;>rfl
theorem Jp {w0 w:World} {X:List Nat} {M:List Res} (h:St w0 X w M):∃g w',(Instr.makeSlice 26 (.int .i64 48) (.int .i64 48)).run Tryz.prog w=.ok (.slice (some ⟨g,0,none⟩) 48 48) w'∧St w0 X w' (M++ [.row 5 1 (.slice (some ⟨g,0,none⟩) 48 48) 48 (bv (List.replicate 48 0))]):=by
 obtain ⟨g,w',r,k⟩:=h.mkN (kl:=.i64) (kc:=.i64) (c:=48) bT rfl (by decide) (by decide) (by decide)
 exact ⟨g,w',r,k⟩
theorem A2 (w:World):Calls Tryz.prog 124 #[] w fun e w'=>∃g,e=.returned (.tuple #[.agg (cq gI).toArray,.slice (some ⟨g,0,none⟩) 48 48])∧St w [] w' [.row 5 1 (.slice (some ⟨g,0,none⟩) 48 48) 48 (bv (List.replicate 48 0))]:=by
 apply nL
 obtain ⟨g0,w1,r1,k1⟩:=(St.start w).az Mg
 have k1:St w [] w1 [.arr g0 44 (cq ⟨0,0,0,0,0⟩)]:=k1
 have k1d:=k1.drew
 refine ⟨g0,w1,r1,fun w'=>∃l M,l.length=5∧St w [] w' (.arr g0 44 l::M),⟨_,[],rfl,k1d⟩,_,fun w' _=>HY gI w',?_,?_⟩
 · obtain ⟨g,w2,r2,k2⟩:=Jp k1d
   obtain ⟨w3,r3,k3⟩:=k2.stA (i:=0) (v:=cq gI) rfl (seS _) rfl rfl (qS _)
   exact ⟨_,_,_,w2,r2,_,fun _ h=>h,⟨_,_,rfl,k2⟩,w3,r3,_,k3.bF (i:=0) (l:=cq gI) rfl (seA _) (seS _) rfl,g,rfl,k3.sub (List.sublist_cons_self _ _)⟩
 · obtain ⟨w3,r3,k3⟩:=k1d.stA (i:=0) (v:=cq gI) rfl (seS _) rfl rfl (qS _)
   have k3:St w [] w3 [.arr g0 44 (cq gI)]:=k3
   obtain ⟨g,w4,r4,k4⟩:=Jp k3
   exact ⟨w3,r3,_,_,_,w4,r4,_,fun _ h=>h,⟨_,_,rfl,k4⟩,_,k4.bF (i:=0) (l:=cq gI) rfl (seA _) (seS _) rfl,g,rfl,k4.sub (List.sublist_cons_self _ _)⟩

end Go.Proofs.YtpmhjnhgpplmnaaGreatDoor
end
