/- The proof of RepoStoresCardSaid, part 8: what it rests on (conditions: those that each theorem names). -/
import Derived.Test.YtpmhjnhgpplmnaaGreatDoorU7
import Derived.Stop.LaidErr
section
namespace Go.Proofs.YtpmhjnhgpplmnaaGreatDoor
open Go Sx Go.ChangeShapes Go.WideShapes Go.RowKit
set_option maxRecDepth 8000

theorem q9 {α:Type} (l:List α) (i a:Nat):(l.drop i).take a++l.drop (i+a)=l.drop i:=by
 have:=List.take_append_drop a (l.drop i);rwa [List.drop_drop] at this
theorem Ay:∀(cs:List Value),(∀v∈cs,∃z:Int,v=.int .i64 z)→∃l,cs=zv l
 | [],_=>⟨[],rfl⟩
 | v::r,h=>by
   obtain ⟨z,rfl⟩:=h v (by simp)
   obtain ⟨l,rfl⟩:=Ay r fun v hv=>h v (by simp [hv])
   exact ⟨z::l,rfl⟩
theorem pK {H:Type} {enc:TypeId×Value→H} {W:World} {m:Nat} {cs0:List Value} {x:DataW H×List MemPlace} (h:DataW.trod enc Tryz.prog W 0 (fun _=>true) true m 29 cs0=some x):
   ∃a n c l,cs0=[.slice a n c]∧Rd W a n c 1 (zv l):=by
 obtain ⟨a,n,c,cs,m,hcs,hrd,hel⟩:=Dw Tryz.underlying29 (show Tryz.prog.cellsOf 3=1 by kernel_rfl) (by decide) h
 have hlen:cs.length=n:=by have:=hrd.len;omega
 obtain ⟨l,hl⟩:=Ay cs fun v hv=>by
   obtain ⟨i,hi,rfl⟩:=List.getElem_of_mem hv
   obtain ⟨y,hy⟩:=hel i (by omega)
   obtain ⟨z,e,_,_⟩:=DataW.trod_int Tryz.underlying3 hy
   refine ⟨z,?_⟩
   rw [Nat.one_mul] at e
   have:=congrArg (fun l=>l[0]?) e
   simpa [List.getElem?_take,List.getElem?_drop,List.getElem?_eq_getElem hi] using this
 exact ⟨a,n,c,l,hcs,by rw [←hl];exact hrd⟩
theorem HP {H:Type} {enc:TypeId×Value→H} {W:World} {fuel:Nat} {cs:List Value} {x:DataW H×List MemPlace} (hf:DataW.trod enc Tryz.prog W 0 (fun _=>true) true fuel 31 cs=some x):
   ∃d a n c l,cs=[.int .i64 d,.slice a n c]∧Rd W a n c 1 (zv l):=by
 have hu:=Tryz.underlying31
 obtain ⟨xs,m,_,hx,hlen,hxl,hel⟩:=DataW.trod_struct hu hf
 have c1:Tryz.prog.cellsOf 3=1:=by kernel_rfl
 have c3:Tryz.prog.cellsOf 29=1:=by kernel_rfl
 have cT:Tryz.prog.cellsOf 31=2:=by kernel_rfl
 have k0:DataW.trod enc Tryz.prog W 0 (fun _=>true) true m 3 ((cs.drop 0).take (Tryz.prog.cellsOf 3))=xs[0]?:=hel 0 _ rfl
 have k1:DataW.trod enc Tryz.prog W 0 (fun _=>true) true m 29 ((cs.drop 1).take (Tryz.prog.cellsOf 29))=xs[1]?:=hel 1 _ rfl
 have hx2:xs.length=2:=hxl
 rw [c1] at k0
 rw [c3] at k1
 have hlen:cs.length=2:=by rw [←cT];exact hlen
 rw [List.getElem?_eq_getElem (by omega)] at k0 k1
 obtain ⟨z,e0,_,w0⟩:=DataW.trod_int Tryz.underlying3 k0
 obtain ⟨a,n,c,l,e1,hr⟩:=pK k1
 have s0:=q9 cs 0 1
 have s1:(cs.drop 1).take 1=cs.drop 1:=List.take_of_length_le (by simp;omega)
 rw [e0] at s0
 rw [e1] at s1
 simp only [Nat.zero_add,List.drop_zero] at s0 s1
 exact ⟨z,a,n,c,l,by rw [←s0,←s1];rfl,hr⟩
theorem GL {H:Type} {enc:TypeId×Value→H} {W:World} {m:Nat} {cs0:List Value} {x:DataW H×List MemPlace} (h:DataW.trod enc Tryz.prog W 0 (fun _=>true) true m 24 cs0=some x):
   ∃a n c vs ls,cs0=[.slice a n c]∧Rd W a n c 1 vs∧cH W vs ls:=by
 obtain ⟨a,n,c,cs,m,hcs,hrd,hel⟩:=Dw Tryz.underlying24 (show Tryz.prog.cellsOf 26=1 by kernel_rfl) (by decide) h
 have hlen:cs.length=n:=by have:=hrd.len;omega
 have each:∀i,i<n→∃l:List UInt8,∃a k c,cs[i]?=some (.slice a k c)∧RdB W a k c l:=by
   intro i hi
   obtain ⟨y,hy⟩:=hel i hi
   obtain ⟨a,k,c,l,e,hr,_⟩:=NI hy
   refine ⟨l,a,k,c,?_,hr⟩
   rw [Nat.one_mul] at e
   have:=congrArg (fun l=>l[0]?) e
   simpa [List.getElem?_take,List.getElem?_drop] using this
 refine ⟨a,n,c,cs,(List.range n).map fun i=>if hi:i<n then (each i hi).choose else [],hcs,hrd,by simp [hlen],fun i hi=>?_⟩
 have hi':i<n:=by simpa using hi
 obtain ⟨a',k,c',h1,h2⟩:=(each i hi').choose_spec
 refine ⟨a',k,c',h1,?_⟩
 have:((List.range n).map fun i=>if hi:i<n then (each i hi).choose else []).getD i []=(each i hi').choose:=by
   simp [List.getD,hi']
 rw [this];exact h2

theorem Lt {H:Type} {enc:TypeId×Value→H} {W:World} {base:Nat} {v:Value} {d:DataW H} {ps:List MemPlace} (hval:Value.okWide Tryz.prog W .any base 106 v)
   (h:DataW.Trod enc Tryz.prog W 0 (fun _=>true) true 106 v d ps):
   ∃x:zz,v=.agg (lQ x).toArray∧yN W x:=by
 have hu:=Tryz.underlying106
 obtain ⟨cs,rfl,_⟩:=okWide_struct hu hval
 obtain ⟨fuel,hf⟩:=h
 obtain ⟨xs,m,_,hx,hlen,hxl,hel⟩:=DataW.trod_struct hu hf
 have c0:Tryz.prog.cellsOf 24=1:=by kernel_rfl
 have c1:Tryz.prog.cellsOf 29=1:=by kernel_rfl
 have c2:Tryz.prog.cellsOf 3=1:=by kernel_rfl
 have c3:Tryz.prog.cellsOf 31=2:=by kernel_rfl
 have cT:Tryz.prog.cellsOf 106=8:=by kernel_rfl
 have k0:DataW.trod enc Tryz.prog W 0 (fun _=>true) true m 24 ((cs.toList.drop 0).take (Tryz.prog.cellsOf 24))=xs[0]?:=hel 0 _ rfl
 have k1:DataW.trod enc Tryz.prog W 0 (fun _=>true) true m 24 ((cs.toList.drop 1).take (Tryz.prog.cellsOf 24))=xs[1]?:=hel 1 _ rfl
 have k2:DataW.trod enc Tryz.prog W 0 (fun _=>true) true m 29 ((cs.toList.drop 2).take (Tryz.prog.cellsOf 29))=xs[2]?:=hel 2 _ rfl
 have k3:DataW.trod enc Tryz.prog W 0 (fun _=>true) true m 3 ((cs.toList.drop 3).take (Tryz.prog.cellsOf 3))=xs[3]?:=hel 3 _ rfl
 have k4:DataW.trod enc Tryz.prog W 0 (fun _=>true) true m 29 ((cs.toList.drop 4).take (Tryz.prog.cellsOf 29))=xs[4]?:=hel 4 _ rfl
 have k5:DataW.trod enc Tryz.prog W 0 (fun _=>true) true m 31 ((cs.toList.drop 5).take (Tryz.prog.cellsOf 31))=xs[5]?:=hel 5 _ rfl
 have k6:DataW.trod enc Tryz.prog W 0 (fun _=>true) true m 29 ((cs.toList.drop 7).take (Tryz.prog.cellsOf 29))=xs[6]?:=hel 6 _ rfl
 have hxl:xs.length=7:=hxl
 rw [c0] at k0 k1
 rw [c1] at k2 k4 k6
 rw [c2] at k3
 rw [c3] at k5
 have hlen:cs.toList.length=8:=by rw [←cT];exact hlen
 rw [List.getElem?_eq_getElem (by omega)] at k0 k1 k2 k3 k4 k5 k6
 obtain ⟨pa,pn,pc,vp,lp,e0,hp,hp2⟩:=GL k0
 obtain ⟨la,ln,lc,vl,ll,e1,hl,hl2⟩:=GL k1
 obtain ⟨da,dn,dc,dl,e2,hd⟩:=pK k2
 obtain ⟨z,e3,_,_⟩:=DataW.trod_int Tryz.underlying3 k3
 obtain ⟨fa,fn,fc,fl,e4,hfl⟩:=pK k4
 obtain ⟨tI,ca,cn,cc,cl,e5,hc⟩:=HP k5
 obtain ⟨aa,an,ac,al,e6,ha⟩:=pK k6
 refine ⟨⟨pa,pn,pc,vp,lp,la,ln,lc,vl,ll,da,dn,dc,dl,z,fa,fn,fc,fl,tI,ca,cn,cc,cl,aa,an,ac,al⟩,?_,⟨hp,hp2,hl,hl2,hd,hfl,hc,ha⟩⟩
 have t0:=q9 cs.toList 0 1
 have t1:=q9 cs.toList 1 1
 have t2:=q9 cs.toList 2 1
 have t3:=q9 cs.toList 3 1
 have t4:=q9 cs.toList 4 1
 have t5:=q9 cs.toList 5 2
 have t6:(cs.toList.drop 7).take 1=cs.toList.drop 7:=List.take_of_length_le (by simp;omega)
 rw [e0] at t0
 rw [e1] at t1
 rw [e2] at t2
 rw [e3] at t3
 rw [e4] at t4
 rw [e5] at t5
 rw [e6] at t6
 simp only [Nat.zero_add,Nat.reduceAdd,List.drop_zero] at t0 t1 t2 t3 t4 t5 t6
 have:cs.toList=lQ ⟨pa,pn,pc,vp,lp,la,ln,lc,vl,ll,da,dn,dc,dl,z,fa,fn,fc,fl,tI,ca,cn,cc,cl,aa,an,ac,al⟩:=by
   rw [lQ,←t0,←t1,←t2,←t3,←t4,←t5,←t6]
   rfl
 rw [←this]

end Go.Proofs.YtpmhjnhgpplmnaaGreatDoor
end

section
namespace Go.Proofs.YtpmhjnhgpplmnaaGreatDoor
open Go Sx
set_option maxRecDepth 8000

theorem Jc:(Rows.laid_internal_strconv_uint64pow10:DataW Unit)=Lib.tabData .u64 Lib.pow10Tab:=by kernel_rfl
theorem BF {W:World} {rest:List (String×DataW Unit)} (hp:∀w,laidMetH Tryz.prog (("internal/strconv.uint64pow10",Rows.laid_internal_strconv_uint64pow10)::rest) w=laidMet Tryz.prog (("internal/strconv.uint64pow10",Rows.laid_internal_strconv_uint64pow10)::rest) w) (h:laidMetH Tryz.prog (("internal/strconv.uint64pow10",Rows.laid_internal_strconv_uint64pow10)::rest) W):iE W:=by
 rw [hp,Jc] at h
 have hg:Tryz.prog.globalNamed "internal/strconv.uint64pow10" =some 3:=by kernel_rfl
 exact Lib.tabIs_of_head hg (by kernel_rfl) Tryz.underlying459 Tryz.underlying42 (by kernel_rfl) (by kernel_rfl) h

end Go.Proofs.YtpmhjnhgpplmnaaGreatDoor
end

section
namespace Go.Proofs.YtpmhjnhgpplmnaaGreatDoor
open Go Sx
set_option maxRecDepth 8000

theorem Kf (u:TypeId) (h:Tryz.prog.typeName? 3 u=some "*errors.errorString"):u=455:=by
 have e: "*" ++ "errors.errorString" = "*errors.errorString" :=by decide
 exact typeName_ptr_named (nm:= "errors.errorString") (by rw [e];kernel_rfl) (by kernel_rfl) (by decide) u (by rw [e];exact h)
theorem CQ:Tryz.prog.cellsOf 457=1:=by kernel_rfl
theorem Gd:Tryz.prog.cellsOf 9=1:=by kernel_rfl
theorem AU {W:World} (h1:laidMetH Tryz.prog [("strconv.ErrSyntax",Rows.laid_strconv_ErrSyntax)] W) (h2:laidMetH Tryz.prog [("strconv.ErrRange",Rows.laid_strconv_ErrRange)] W):ql W:=by
 rw [MakeChecks.laidMetH_plain _ _ _ (by kernel_rfl)] at h1 h2
 have g1:Tryz.prog.globalNamed "strconv.ErrSyntax" =some 0:=by kernel_rfl
 have g2:Tryz.prog.globalNamed "strconv.ErrRange" =some 1:=by kernel_rfl
 have t1:(Tryz.prog.globals[0]?).map (·.type)=some 58:=by kernel_rfl
 have t2:(Tryz.prog.globals[1]?).map (·.type)=some 58:=by kernel_rfl
 obtain ⟨a,_,v1,_⟩:=laid_sentinel h1 g1 t1 Tryz.underlying58 Kf Tryz.underlying455 Tryz.underlying457 rfl rfl Tryz.underlying9 CQ Gd
 obtain ⟨b,_,v2,_⟩:=laid_sentinel h2 g2 t2 Tryz.underlying58 Kf Tryz.underlying455 Tryz.underlying457 rfl rfl Tryz.underlying9 CQ Gd
 exact ⟨⟨_,_,v1⟩,_,_,v2⟩

end Go.Proofs.YtpmhjnhgpplmnaaGreatDoor
end
