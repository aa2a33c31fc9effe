/- The proof of RepoStoresCardSaid, part 5: what it rests on (conditions: those that each theorem names). -/
import Derived.Test.YtpmhjnhgpplmnaaGreatDoorU4
import Derived.Shelf.SlGeneric
import Derived.Shelf.SlIter.Sorted
import Derived.Shelf.SortM.Plain
import Derived.Shelf.SortM.SortNone
import Derived.Ground.GgzProg
import Derived.Ground.SlgmProg
import Derived.Test.YtpmhjnhgpplmnaaGreatDoorProg
import Derived.Test.YtpmhjnhgpplmnaaGreatDoorRows
import Derived.WalkKit
import Derived.LaidEql
import Derived.Stop.Asserts
import Derived.RowKitTokens
section
namespace Go.Proofs.YtpmhjnhgpplmnaaGreatDoor
open Go Sx
set_option maxRecDepth 8000

theorem rL {B:Nat} :∀l:List Nat,(∀x∈l,x≤B)→l.sum≤l.length*B
 | [],_=>by simp
 | x::l,h=>by
   have h1:=rL l fun y hy=>h y (by simp [hy])
   have h2:=h x (by simp)
   rw [List.sum_cons,List.length_cons,Nat.succ_mul]
   omega

section
variable {w0 w w':World} {X:List Nat} {N N':List Res} {gd:Nat} {ps:List Nat} {m:ah}

def uM (fs:List b8) (e:Ent):Nat:=(fileAt fs e.file).data.length
theorem Gs (hw:WFD m) (e:Ent):uM m.files e≤1099511627776:=by
 unfold uM fileAt
 by_cases hi:e.file<m.files.length
 · rw [List.getD,List.getElem?_eq_getElem hi]
   exact (hw.syn _ (List.getElem_mem hi)).2
 · rw [List.getD,List.getElem?_eq_none (by omega)]
   simp [iJ]
theorem IY (hw:WFD m):kC m≤4503599627370496:=by
 have h1:=rL (B:=1099511627776) (m.now.map (uM m.files)) fun x hx=>by
   obtain ⟨e,_,rfl⟩:=List.mem_map.1 hx
   exact Gs hw e
 rw [List.length_map] at h1
 have h2:=hw.dV.len
 have h3:m.now.length*1099511627776≤4096*1099511627776:=Nat.mul_le_mul_right _ h2
 show (m.now.map (uM m.files)).sum≤_
 omega

theorem G1 (h:aj w0 X w gd ps m N):
   Calls Tryz.prog 228 #[.pointer (some ⟨gd,0,none⟩)] w fun e w'=>e=.returned (.int .i64 (kC m:Int))∧Chg [] w w':=by
 obtain ⟨p,hps,hp,hS⟩:=h
 have hw:=hp.wf
 apply sX
 have hg:w.heap[p.gn]?=some (.map p.esn p.ckn):=hS.holds 1 _ rfl
 have hit:St w [] (w.alloc (.mapIter (some p.gn) p.ckn #[] p.ckn)) [.blk w.heap.size (.mapIter (some p.gn) p.ckn #[] p.ckn)]:=(St.start w).add (Chg.alloc _ _) (heap_alloc_new w _) (by simp [Res.fp])
 obtain ⟨gr,hgr⟩:∃gr,w.heap.size=gr:=⟨_,rfl⟩
 rw [hgr] at hit
 refine ⟨_,aj.cell hS (i:=6) (AY _) rfl,_,_,run_range_map w 149 9 162 p.gn p.esn p.ckn zH hg,fun x w'=>∃(seen:Array Nat) (out:Dir),x=((out.map (uM m.files)).sum:Int)∧(out++(jy p.esn p.Mn seen).map (·.2)).Perm p.Mn∧St w [] w' [.blk gr (.mapIter (some p.gn) p.ckn seen p.ckn)],
   fun _ w'=>muR p.gn gr w',⟨#[],[],rfl,by rw [GZ hp.oJ,List.nil_append],hit⟩,?_⟩
 rw [hgr]
 rintro x w2 ⟨seen,out,rfl,hperm,h2⟩
 have hS2:=hS.same h2.chg
 have hr2:w2.heap[gr]?=some (.mapIter (some p.gn) p.ckn seen p.ckn):=h2.holds 0 _ rfl
 have hg2:w2.heap[p.gn]?=some (.map p.esn p.ckn):=hS2.holds 1 _ rfl
 rcases FF (P:=Tryz.prog) hp.oJ hr2 hg2 with ⟨hz,hrun⟩ | ⟨e,r,w3,hw3,hrun,hrM,hent,hleft,hlt⟩
 · refine ⟨false,[],w2,hrun,fun h=>(by cases h),fun _=>⟨?_,h2.chg⟩⟩
   rw [hz,List.map_nil,List.append_nil] at hperm
   have hsum:(out.map (uM m.files)).sum=kC m:=((hperm.trans hp.isn.perm).map (uM m.files)).sum_nat
   rw [hsum]
 · refine ⟨true,_,_,hrun,fun _=>?_,fun h=>(by cases h)⟩
   have h3:St w [] w3 [.blk gr (.mapIter (some p.gn) p.ckn seen p.ckn)]:=by
     rcases hw3 with rfl | rfl
     · exact h2
     · exact h2.drew
   have h4:=St.yu h3 (i:=0) (o':=.mapIter (some p.gn) p.ckn (seen.push e.born) p.ckn) rfl
   have h4:St w [] (w3.putObj gr (.mapIter (some p.gn) p.ckn (seen.push e.born) p.ckn)) [.blk gr (.mapIter (some p.gn) p.ckn (seen.push e.born) p.ckn)]:=h4
   have hS4:=hS.same h4.chg
   have hr4:=h4.holds 0 _ rfl
   have hg4:(w3.putObj gr (.mapIter (some p.gn) p.ckn (seen.push e.born) p.ckn)).heap[p.gn]?=some (.map p.esn p.ckn):=hS4.holds 1 _ rfl
   have hrn:=hp.isn.perm.mem_iff.1 hrM
   obtain ⟨f,hf,hpg,hfm⟩:=hp.file (hw.dV.ent r hrn).1
   have hlr:uM m.files r=f.data.length:=by rw [uM,hfm]
   have hp2:(out++ [r]++(jy p.esn p.Mn (seen.push e.born)).map (·.2)).Perm p.Mn:=by
     refine List.Perm.trans ?_ hperm
     rw [List.append_assoc]
     exact List.Perm.append_left out hleft.symm
   have hle:((out++ [r]).map (uM m.files)).sum≤4503599627370496:=by
     have h1:=rL (B:=1099511627776) ((out++ [r]).map (uM m.files)) fun x hx=>by
       obtain ⟨e,_,rfl⟩:=List.mem_map.1 hx
       exact Gs hw e
     rw [List.length_map] at h1
     have h2:(out++ [r]).length≤4096:=by
       have:=hp2.length_eq
       have h5:=hp.isn.perm.length_eq
       have h6:=hw.dV.len
       rw [List.length_append] at this
       omega
     have h3:(out++ [r]).length*1099511627776≤4096*1099511627776:=Nat.mul_le_mul_right _ h2
     omega
   have hsumr:((out++ [r]).map (uM m.files)).sum=(out.map (uM m.files)).sum+f.data.length:=by rw [List.map_append,List.sum_append,List.map_singleton,List.sum_singleton,hlr]
   have hent':=hent _ hr4 hg4
   have hvl:vlE p.ps r=.pointer (some ⟨f.g,0,none⟩):=by show Value.pointer (some ⟨p.ps.getD r.file 0,0,none⟩)=_;rw [hpg]
   rw [hvl] at hent'
   refine ⟨_,f.g,0,_,hent',_,_,_,(St.wP hS4 hf).1,⟨seen.push e.born,out++ [r],?_,hp2,h4⟩,?_⟩
   · rw [wrap_i64 (by omega) (by omega),hsumr];omega
   · show muR p.gn gr _<muR p.gn gr _
     rw [Jg hg4 hr4,Jg hg2 hr2,rI hp.oJ,rI hp.oJ]
     exact hlt

theorem Md {ps:List Nat} {cs:List ChM} {k g:Nat} (hk:k=ps.length) (h:∀c∈cs,∀i,c.made=some i→i<k):cs.flatMap (chC (ps++ [g]))=cs.flatMap (chC ps):=by
 induction cs with
 | nil=>rfl
 | cons c cs ih=>
   rw [List.flatMap_cons,List.flatMap_cons,ih fun c' hc'=>h c' (by simp [hc'])]
   congr 1
   unfold chC
   cases hm:c.made with
   | none=>rfl
   | some i=>
     have hi:=h c (by simp) i hm
     have:(ps++ [g]).getD i 0=ps.getD i 0:=by simp [List.getD,List.getElem?_append_left (show i<ps.length by omega)]
     simp only [nI,this]
theorem GX {ps:List Nat} {i g:Nat} (hi:i<ps.length):nI (ps++ [g]) i=nI ps i:=by
 have:(ps++ [g]).getD i 0=ps.getD i 0:=by simp [List.getD,List.getElem?_append_left hi]
 simp only [nI,this]
theorem K7 (ps:List Nat) (g:Nat):nI (ps++ [g]) ps.length=.pointer (some ⟨g,0,none⟩):=by simp [nI,List.getD]

theorem DOk.psl {p:DP} (hp:DOk m p):p.ps.length=m.files.length:=by have:=congrArg List.length hp.files;simpa [DP.ps] using this

theorem WFD.s6 (h:WFD m) {f:b8} (hf:f.syn≤f.data.length∧f.data.length≤1099511627776):WFD { m with files:=m.files++ [f] } :=
 ⟨h.now,fun k=>(h.tI k).mono (by simp),fun c hc i hi=>by have:=h.made c hc i hi;simp;omega,fun g hg=>by
   rcases List.mem_append.1 hg with hg | hg
   · exact h.syn g hg
   · simp at hg;rw [hg];exact hf,h.size⟩
theorem DOk.s6 {p:DP} (hp:DOk m p) (f:FR) (hf:f.syn≤f.data.length∧f.data.length≤1099511627776):DOk { m with files:=m.files++ [f.m] } { p with FL:=p.FL++ [f] } :=by
 have hl:=hp.psl
 have hps:({ p with FL:=p.FL++ [f] } :DP).ps=p.ps++ [f.g]:=by simp [DP.ps]
 refine ⟨hp.wf.s6 hf,by simp [hp.files],hp.arm,hp.bN,?_,hp.isn,?_,hp.iss⟩
 · rw [hps]
   refine bF.congr hp.oJ fun r hr=>?_
   have:=(hp.wf.dV.ent r (hp.isn.perm.mem_iff.1 hr)).1
   exact (GX (by omega)).symm
 · rw [hps]
   refine bF.congr hp.maps fun r hr=>?_
   have:=(hp.wf.N5.ent r (hp.iss.perm.mem_iff.1 hr)).1
   exact (GX (by omega)).symm
theorem St.s6 {p:DP} (hp:DOk m p) {f:FR} (h:St w0 X w ((dM gd m p++DR p.FL N)++ [f.blk]++ [f.row])):St w0 X w (dM gd { m with files:=m.files++ [f.m] } { p with FL:=p.FL++ [f] } ++DR (p.FL++ [f]) N):=by
 have hps:({ p with FL:=p.FL++ [f] } :DP).ps=p.ps++ [f.g]:=by simp [DP.ps]
 have e:dM gd { m with files:=m.files++ [f.m] } { p with FL:=p.FL++ [f] } =dM gd m p:=by
   unfold dM
   rw [hps]
   have:=Md (g:=f.g) hp.psl.symm hp.wf.made
   simp only [this]
   rfl
 rw [e]
 refine h.perm ?_
 have h1:=tv (FL:=p.FL++ [f]) (i:=p.FL.length) (f:=f) (by simp) (dM gd m p) N
 have h2:(p.FL++ [f]).eraseIdx p.FL.length=p.FL:=by simp [List.eraseIdx_append_of_length_le]
 rw [h2] at h1
 refine List.Perm.trans ?_ h1.symm
 rw [List.append_assoc]
 exact List.perm_append_comm

theorem NG (w:World):(Instr.build 169 #[]).run Tryz.prog w=.ok (.agg #[.slice none 0 0,.int .i64 0]) w:=by
 apply run_build
 kernel_rfl
theorem chT:gz Tryz.prog 150 164 3 40 (.agg #[.pointer none,.string ByteArray.empty,.string ByteArray.empty]):=⟨by kernel_rfl,⟨Tryz.t164,by kernel_rfl,by kernel_rfl,by kernel_rfl,by kernel_rfl⟩,rfl,by decide⟩
theorem yz:Tryz.prog.built 164=fun parts=>Instr.fill (fun i=>(#[(0,1),(1,1),(2,1)]:Array (Nat×Nat))[i]?) #[.pointer none,.string ⟨#[]⟩,.string ⟨#[]⟩] parts:=by kernel_rfl
theorem Ff (g:Nat) (n:Nm) (w:World):(Instr.build 164 #[(0,.pointer (some ⟨g,0,none⟩)),(2,aK n)]).run Tryz.prog w=.ok (.agg #[.pointer (some ⟨g,0,none⟩),.string ⟨#[]⟩,aK n]) w:=by
 apply run_build
 rw [yz]
 show Instr.fill _ _ [(0,_),(2,aK n)]=_
 rw [aC (off:=0) (sz:=1) rfl rfl (by simp),aC (off:=2) (sz:=1) rfl rfl (by simp [Value.cells,aK])]
 rfl
theorem EY (a b:Nm) (w:World):(Instr.build 164 #[(1,aK a),(2,aK b)]).run Tryz.prog w=.ok (.agg #[.pointer none,aK a,aK b]) w:=by
 apply run_build
 rw [yz]
 show Instr.fill _ _ [(1,aK a),(2,aK b)]=_
 rw [aC (off:=1) (sz:=1) rfl rfl (by simp),aC (off:=2) (sz:=1) rfl rfl (by simp [Value.cells,aK])]
 rfl
theorem HX (a:Nm) (w:World):(Instr.build 164 #[(1,aK a)]).run Tryz.prog w=.ok (.agg #[.pointer none,aK a,.string ⟨#[]⟩]) w:=by
 apply run_build
 rw [yz]
 show Instr.fill _ _ [(1,aK a)]=_
 rw [aC (off:=1) (sz:=1) rfl rfl (by simp)]
 rfl

theorem iL (m:ah):(bu m).1.files=m.files∧(bu m).1.now=m.now∧(bu m).1.chs=m.chs∧(bu m).1.syn=m.syn∧(bu m).1.size=m.size:=by
 obtain ⟨s,d,a,f,e⟩:=D5 m
 rw [e];exact ⟨rfl,rfl,rfl,rfl,rfl⟩

set_option maxHeartbeats 1000000 in
theorem oq (n:Nm) (h:aj w0 X w gd ps m N) (hb:m.steps<4611686018427387904) (hc:m.chs.length<1000000000):
   Calls Tryz.prog 144 #[.pointer (some ⟨gd,0,none⟩),aK n] w fun e w'=>e=.returned (bG (aN m n).2)∧∃ps',aj w0 X w' gd ps' (aN m n).1 N:=by
 obtain ⟨mI,hI⟩:=eI
 apply p9
 obtain ⟨g,w1,r1,h1⟩:=(St.start w).lit Il [aK n] (by simp [Value.oneCell',aK]) (by simp)
 have hD1:=h.same h1.chg
 refine ⟨_,_,_,w1,r1,(mS _ _ _ [n] hD1 (h1.rd (i:=0) rfl) (by simp)).mono ?_⟩
 rintro e w2 ⟨rfl,rfl⟩
 obtain ⟨p,hps,hp,hS⟩:=hD1
 have hw:=hp.wf
 refine ⟨_,rfl,_,az hI _ _ _,fun hne=>?_,fun hok=>?_⟩
 · obtain ⟨e,he⟩:=Option.isSome_iff_exists.1 hne
   have:aN m n=(m,some e):=by unfold aN;rw [he]
   rw [this,he]
   exact ⟨rfl,ps,p,hps,hp,hS⟩
 have hrn:fI m [n]=none:=by simpa using hok
 have hgood:cE n=true:=by
   unfold fI at hrn
   cases hg:cE n with
   | true=>rfl
   | false=>simp [hg] at hrn;split at hrn<;>cases hrn
 have hcr:aN m n=if (findD m.now n).isSome then (m,some 4) else if 4096≤m.now.length then (m,some 19) else aT m fun m=>gZ m n:=by unfold aN;rw [hrn]
 have hlk:=Ao hp (w:=w2) (hS.holds 1 _ rfl) n
 refine ⟨_,aj.cell hS (i:=6) (AY _) rfl,_,_,w2,hlk,fun hyes=>?_,fun hno=>?_⟩
 · rw [hcr,if_pos hyes]
   exact ⟨rfl,ps,p,hps,hp,hS⟩
 have hno':¬(findD m.now n).isSome=true:=by rw [hno];simp
 rw [if_neg hno'] at hcr
 have hfn:findD m.now n=none:=by simpa using hno
 refine ⟨_,aj.cell hS (i:=6) (AY _) rfl,_,w2,hp.oJ.lenOf (P:=Tryz.prog) zH (hS.holds 1 _ rfl) _,fun hge=>?_,fun hlt=>?_⟩
 · have:4096≤m.now.length:=by have:=hp.isn.perm.length_eq;simp at hge;omega
   rw [hcr,if_pos this]
   exact ⟨rfl,ps,p,hps,hp,hS⟩
 have hlen:¬4096≤m.now.length:=by have:=hp.isn.perm.length_eq;simp at hlt;omega
 rw [if_neg hlen] at hcr
 refine (jU ⟨p,hps,hp,hS⟩ hb).mono ?_
 rintro e w5 ⟨rfl,hD5⟩
 refine ⟨_,rfl,_,az hI _ _ _,fun hne=>?_,fun hok=>?_⟩
 · obtain ⟨e,he⟩:=Option.isSome_iff_exists.1 hne
   rw [hcr]
   unfold aT
   rw [he]
   exact ⟨rfl,ps,hD5⟩
 have hst:(bu m).2=none:=by simpa using hok
 have hres:aN m n=(gZ (bu m).1 n,none):=by rw [hcr];unfold aT;rw [hst]
 rw [hres]
 obtain ⟨m1,hm1⟩:∃m1,(bu m).1=m1:=⟨_,rfl⟩
 obtain ⟨e1,e2,e3,e4,_⟩:=iL m
 rw [hm1] at hD5 e1 e2 e3 e4 ⊢
 clear hS hp hps hlk hlt
 clear p
 obtain ⟨p,hps,hp,hS⟩:=hD5
 obtain ⟨g,w6,r6,h6⟩:=hS.box (P:=Tryz.prog) 169 (.agg #[.slice none 0 0,.int .i64 0])
 have h6':=h6.bZ 5 1
 let f:FR:=⟨g,none,0,[],0⟩
 have h6':St w0 X w6 ((dM gd m1 p++DR p.FL N)++ [f.blk]++ [f.row]):=h6'
 have h7:=St.s6 hp h6'
 have hp7:=hp.s6 f ⟨Nat.le_refl _,by simp [f]⟩
 have hfz:f.m=iJ:=rfl
 rw [hfz] at h7 hp7
 obtain ⟨m2,hm2⟩:∃m2,({ m1 with files:=m1.files++ [iJ] } :ah)=m2:=⟨_,rfl⟩
 obtain ⟨p2,hp2⟩:∃p2,({ p with FL:=p.FL++ [f] } :DP)=p2:=⟨_,rfl⟩
 have hps2:p2.ps=ps++ [g]:=by rw [←hp2,←hps];simp [DP.ps,f]
 have hpsl:ps.length=m1.files.length:=by rw [←hps];exact hp.psl
 have hFL:p.FL++ [f]=p2.FL:=by rw [←hp2]
 rw [hm2,hp2] at hp7
 rw [hm2,hp2,hFL] at h7
 have hm2n:m2.now=m1.now:=by rw [←hm2]
 have hm2c:m2.chs=m1.chs:=by rw [←hm2]
 have hm2f:m2.files=m1.files++ [iJ]:=by rw [←hm2]
 have hgn:w6.heap[p2.gn]?=some (.map p2.esn p2.ckn):=h7.holds 1 _ rfl
 obtain ⟨es',ck',rU,hE'⟩:=hp7.oJ.wE (P:=Tryz.prog) (HM p2.Mn) zH hgn (⟨n,m1.files.length⟩:Ent) trivial
 have hval:vlE p2.ps (⟨n,m1.files.length⟩:Ent)=.pointer (some ⟨g,0,none⟩):=by
   show nI p2.ps m1.files.length=_
   rw [hps2,←hpsl]
   exact K7 ps g
 rw [hval] at rU
 have h8:=St.yu h7 (i:=1) (o':=.map es' ck') rfl
 have h8:St w0 X (w6.putObj p2.gn (.map es' ck')) (dM gd m2 { p2 with esn:=es',ckn:=ck' } ++DR p2.FL N):=h8
 have hl8:m2.chs.length<1000000000:=by rw [hm2c,e3];exact hc
 obtain ⟨g9,w9,vb,vd,w10,r9,r10,h10,_⟩:=h8.sH (i:=3) (ty:=150) chT rfl (chC p2.ps (gh m1 n)) (jL _ _) (by decide) (tL _ _) (by omega) (by simp only [maxLen];omega)
 have hcc:(chC p2.ps (gh m1 n)).toArray= #[.pointer (some ⟨g,0,none⟩),.string ⟨#[]⟩,aK n]:=by
   show ([nI p2.ps m1.files.length,aK [],aK n]:List Value).toArray=_
   have:nI p2.ps m1.files.length=.pointer (some ⟨g,0,none⟩):=hval
   rw [this];rfl
 rw [hcc] at r9
 obtain ⟨w11,r11,h11⟩:=h10.stL (i:=0) (o:=8) (off:=8) (T:=150) (v:=.slice vb (m2.chs.length+1) vd) rfl (LC _) rfl (by simp [iU]) rfl
 have hfin:gZ m1 n= { iO m2 (gh m1 n) with files:=m2.files } :=by
   rw [←hm2];rfl
 refine ⟨_,NG w5,g,w6,r6,_,aj.cell h7 (i:=6) (AY _) rfl,_,rU,_,_,_,aj.cell h8 (i:=8) (MR _) rfl,_,Ff g n _,_,_,_,w9,r9,vb,_,vd,w10,r10,w11,r11,rfl,p2.ps, { p2 with esn:=es',ckn:=ck',ca:=vb,cc:=vd,Mn:=wh Ent.name p2.Mn ⟨n,m1.files.length⟩ },rfl,?_,?_⟩
 · rw [hfin]
   have hno1:findD m1.now n=none:=by rw [e2];exact hfn
   have hmk:mkD m2.now (gh m1 n)=ep Ent.name m2.now ⟨n,m1.files.length⟩:=rfl
   refine ⟨hp7.wf.snoc (Nat.le_refl _) hp7.wf.syn (fun i hi=>?_) ?_,hp7.files,hp7.arm,hp7.bN,hE',hp7.isn.upd _,hp7.maps,hp7.iss⟩
   · have:i=m1.files.length:=by
       have:some m1.files.length=some i:=hi
       exact (Option.some.inj this).symm
     rw [hm2f,this];simp
   · rw [hmk]
     refine hp7.wf.dV.ins (by rw [hm2f];simp) hgood (.inl ?_) fun x hx _=>?_
     · rw [hm2n,e2];omega
     · rw [hm2n] at hx
       have:=(hp.wf.dV.ent x hx).1
       omega
 · rw [hfin]
   show St w0 X w11 (dM gd { iO m2 (gh m1 n) with files:=m2.files } { p2 with esn:=es',ckn:=ck',ca:=vb,cc:=vd,Mn:=wh Ent.name p2.Mn ⟨n,m1.files.length⟩ } ++DR p2.FL N)
   have el:(m2.chs++ [gh m1 n]).length=m2.chs.length+1:=by simp
   have ef:(m2.chs++ [gh m1 n]).flatMap (chC p2.ps)=m2.chs.flatMap (chC p2.ps)++chC p2.ps (gh m1 n):=by simp
   unfold dM iU iO
   show St w0 X w11 (.arr gd 152 _:: .blk _ _:: .blk _ _:: .row _ _ (.slice vb (m2.chs++ [gh m1 n]).length vd) (m2.chs++ [gh m1 n]).length ((m2.chs++ [gh m1 n]).flatMap (chC p2.ps))::_::_)
   simp only [el,ef]
   exact h11

end

end Go.Proofs.YtpmhjnhgpplmnaaGreatDoor
end

section
namespace Go.Proofs.YtpmhjnhgpplmnaaGreatDoor
open Go Sx
set_option maxRecDepth 8000

section
variable {w0 w w':World} {X:List Nat} {N N':List Res} {gd:Nat} {ps:List Nat} {m:ah}

theorem jk {fs:List b8} {i:Nat} {f:b8→b8} (hi:i<fs.length):fileAt (gw fs i f) i=f (fileAt fs i):=by
 simp [fileAt,gw,List.getD,hi]
theorem ir {fs:List b8} {i j:Nat} {f:b8→b8} (h:i≠j):fileAt (gw fs i f) j=fileAt fs j:=by
 simp [fileAt,gw,List.getD,List.getElem?_set_ne h]
theorem lZ (fs:List b8) (i:Nat) (f:b8→b8):(gw fs i f).length=fs.length:=by simp [gw]
theorem Iz {fs:List b8} {i:Nat} {f:b8→b8} (h:f (fileAt fs i)=fileAt fs i):gw fs i f=fs:=by
 unfold gw
 rw [h]
 by_cases hi:i<fs.length
 · have:fileAt fs i=fs[i]:=by simp [fileAt,List.getD,hi]
   rw [this,List.set_getElem_self]
 · rw [List.set_eq_of_length_le (by omega)]
theorem G6 {fs:List b8} {i:Nat} {f g:b8→b8} (hi:i<fs.length):gw (gw fs i f) i g=gw fs i fun x=>g (f x):=by
 unfold gw
 have:fileAt (fs.set i (f (fileAt fs i))) i=f (fileAt fs i):=by simp [fileAt,List.getD,hi]
 rw [this,List.set_set]

theorem WFD.files (h:WFD m) {fs:List b8} (hl:fs.length=m.files.length) (hs:∀f∈fs,f.syn≤f.data.length∧f.data.length≤1099511627776):WFD { m with files:=fs } :=
 ⟨h.now,fun k=>by show fA fs.length _;rw [hl];exact h.tI k,fun c hc i hi=>by show i<fs.length;rw [hl];exact h.made c hc i hi,hs,h.size⟩
theorem yI (h:∀f∈m.files,f.syn≤f.data.length∧f.data.length≤1099511627776) {i:Nat} {g:b8} (hg:g.syn≤g.data.length∧g.data.length≤1099511627776):∀f∈gw m.files i (fun _=>g),f.syn≤f.data.length∧f.data.length≤1099511627776:=by
 intro f hf
 rcases List.mem_or_eq_of_mem_set hf with h1 | h1
 · exact h f h1
 · rw [h1];exact hg

theorem DOk.tq {p:DP} (hp:DOk m p) {i:Nat} {f f':FR} (hf:p.FL[i]?=some f) (hg:f'.g=f.g) (hs:f'.syn≤f'.data.length∧f'.data.length≤1099511627776):DOk { m with files:=gw m.files i fun _=>f'.m } { p with FL:=p.FL.set i f' } ∧({ p with FL:=p.FL.set i f' } :DP).ps=p.ps:=by
 have hps:({ p with FL:=p.FL.set i f' } :DP).ps=p.ps:=by
   unfold DP.ps
   rw [List.map_set,hg]
   have:(p.FL.map FR.g)[i]?=some f.g:=by rw [List.getElem?_map,hf];rfl
   obtain ⟨h1,h2⟩:=List.getElem?_eq_some_iff.1 this
   rw [←h2,List.set_getElem_self]
 refine ⟨⟨hp.wf.files (lZ _ _ _) (yI hp.wf.syn hs),?_,hp.arm,hp.bN,?_,hp.isn,?_,hp.iss⟩,hps⟩
 · show (p.FL.set i f').map FR.m=gw m.files i fun _=>f'.m
   rw [List.map_set,hp.files];rfl
 · rw [hps];exact hp.oJ
 · rw [hps];exact hp.maps

theorem St.tq {p:DP} {i:Nat} {f f':FR} (hf:p.FL[i]?=some f) (hps:({ p with FL:=p.FL.set i f' } :DP).ps=p.ps) (h:St w0 X w' (f'.blk::f'.row::(dM gd m p++DR (p.FL.eraseIdx i) N))):St w0 X w' (dM gd { m with files:=gw m.files i fun _=>f'.m } { p with FL:=p.FL.set i f' } ++DR (p.FL.set i f') N):=by
 have hl:=(List.getElem?_eq_some_iff.1 hf).1
 have e:dM gd { m with files:=gw m.files i fun _=>f'.m } { p with FL:=p.FL.set i f' } =dM gd m p:=by
   unfold dM
   rw [hps]
   rfl
 rw [e]
 have h1:=tv (FL:=p.FL.set i f') (i:=i) (f:=f') (by simp [hl]) (dM gd m p) N
 rw [eraseIdx_set] at h1
 exact h.perm h1.symm

theorem qv:∀(l:List Nat) (x:Nat),x∈l→x≤l.sum
 | [],x,h=>by simp at h
 | y::l,x,h=>by
   rw [List.sum_cons]
   rcases List.mem_cons.1 h with rfl | h
   · omega
   · have:=qv l x h;omega
theorem GF:∀(qs:List (List UInt8)) (r:Int),fits r qs=true→qs=[]∨(qs.flatten.length:Int)≤r
 | [],r,_=>.inl rfl
 | p::qs,r,h=>by
   simp only [fits,Bool.and_eq_true,decide_eq_true_eq] at h
   right
   rcases GF qs _ h.2 with rfl | h2
   · simpa using h.1
   · rw [List.flatten_cons,List.length_append];omega

theorem dU (m:ah) (i:Nat) (qs:List (List UInt8)):(bK m i qs).files=gw m.files i fun f=>⟨f.data++qs.flatten,f.syn⟩:=rfl

set_option maxHeartbeats 1000000 in
theorem o8 (n:Nm) (a:Option Addr) (k c:Nat) (vs:List Value) (qs:List (List UInt8)) (h:aj w0 X w gd ps m N) (hq:∀ {w' ps' m'},aj w0 X w' gd ps' m' N→Rd w' a k c 1 vs∧cH w' vs qs) (hb:m.steps<4611686018427387904) (hk:k≤1000000000):
   Calls Tryz.prog 145 #[.pointer (some ⟨gd,0,none⟩),aK n,.slice a k c] w fun e w'=>e=.returned (bG (aP m n qs).2)∧aj w0 X w' gd ps (aP m n qs).1 N:=by
 obtain ⟨mI,hI⟩:=eI
 have hw:=h.wf
 have hqk:qs.length=k:=by
   obtain ⟨h1,h2⟩:=hq h
   have:=h1.len
   have:=h2.len
   omega
 apply qh
 refine (iN n h).mono ?_
 rintro e w1 ⟨rfl,c1⟩
 have hD1:=h.same c1
 refine ⟨_,_,rfl,_,az hI _ _ _,fun hne=>?_,fun hok=>?_⟩
 · obtain ⟨e,he⟩:=Option.isSome_iff_exists.1 hne
   have:aP m n qs=(m,some e):=by unfold aP;rw [he]
   rw [this,he]
   exact ⟨rfl,hD1⟩
 have hfn:bW m n=none:=by simpa using hok
 rw [if_pos hfn]
 obtain ⟨hil,e0,he0,hen,hef,_⟩:=pE hw hfn
 have hap:aP m n qs=if fits (m.size-kC m) qs then aT m fun m'=>bK m' (cA m n) qs else (m,some 3):=by simp only [aP,hfn]
 have hsz:=hw.size
 have hus:=IY hw
 refine ⟨fun w'=>aj w0 X w' gd ps m N,hD1.same (Chg.drew [] w1),m.size,fun w' h'=>?_,(G1 (hD1.same (Chg.drew [] w1))).mono ?_⟩
 · obtain ⟨p,_,_,hS⟩:=h'
   exact aj.cell hS (i:=5) (jv _) rfl
 rintro e w2 ⟨rfl,c2⟩
 have hD2:=(hD1.same (Chg.drew [] w1)).same c2
 have wr:IntKind.wrap .i64 (m.size- (kC m:Int))=m.size- (kC m:Int):=wrap_i64 (by omega) (by omega)
 refine ⟨_,rfl,fun w'=>aj w0 X w' gd ps m N,fun _ h=>h,hD2,?_⟩
 rw [wr]
 refine ⟨fun x y w'=>∃i:Nat,y=(i:Int)∧i≤k∧x≤67108864∧ -9007199254740992≤x∧fits (m.size-kC m) qs=fits x (qs.drop i)∧w'=w2,fun _ y _=>k-y.toNat,⟨0,rfl,by omega,by omega,by omega,by simp,rfl⟩,?_⟩
 rintro x y w3 ⟨i,rfl,hi,hx1,hx2,hfit,rfl⟩
 obtain ⟨hr,h2⟩:=hq hD2
 refine ⟨fun hlt=>?_,fun hge=>?_⟩
 · have hi':i<k:=by simp at hlt;omega
   obtain ⟨b,o,a',n',c',ha,hv,hrd,q⟩:=ixS hr.cells h2 (i:=i) (by omega)
   have hln:=hrd.bB
   have hdr:qs.drop i=qs.getD i []::qs.drop (i+1):=by rw [List.drop_eq_getElem_cons (by omega)];simp [List.getD,show i<qs.length by omega]
   rw [hdr,fits,hln] at hfit
   refine ⟨b,o,ha,by omega,by omega,_,_,_,q w3 hr.cells,fun hgt=>?_,fun hle=>?_⟩
   · have:¬((n':Int)≤x):=by simp at hgt;omega
     rw [hap,hfit]
     simp only [this,decide_false,Bool.false_and,Bool.false_eq_true,if_false]
     exact ⟨rfl,hD2⟩
   · have hle:(n':Int)≤x:=by simp at hle;omega
     refine ⟨⟨i+1,ay hi' (by omega),by omega,?_,?_,?_,rfl⟩,aB hi' (by omega)⟩
     · rw [wrap_i64 (by omega) (by omega)];omega
     · rw [wrap_i64 (by omega) (by omega)];omega
     · rw [wrap_i64 (by omega) (by omega),hfit,decide_eq_true hle,Bool.true_and]
 have hi':i=k:=by simp at hge;omega
 have hft:fits (m.size-kC m) qs=true:=by rw [hfit,hi',List.drop_of_length_le (by omega)];rfl
 rw [hft,if_pos rfl] at hap
 refine (jU hD2 hb).mono ?_
 rintro e w4 ⟨rfl,hD4⟩
 refine ⟨_,rfl,_,az hI _ _ _,fun hne=>?_,fun hok=>?_⟩
 · obtain ⟨e,he⟩:=Option.isSome_iff_exists.1 hne
   rw [hap]
   unfold aT
   rw [he]
   exact ⟨rfl,hD4⟩
 have hst:(bu m).2=none:=by simpa using hok
 have hres:aP m n qs=(bK (bu m).1 (cA m n) qs,none):=by rw [hap];unfold aT;rw [hst]
 rw [hres]
 obtain ⟨m1,hm1⟩:∃m1,(bu m).1=m1:=⟨_,rfl⟩
 obtain ⟨e1,e2,e3,e4,_⟩:=iL m
 rw [hm1] at hD4 e1 e2 e3 e4 ⊢
 obtain ⟨j,hj⟩:∃j,cA m n=j:=⟨_,rfl⟩
 rw [hj] at hil hef ⊢
 -- how long the file may grow
 have hbound:∀t,(fileAt m1.files j).data.length+(qs.take t).flatten.length≤1099511627776:=by
   intro t
   have hdl:=(hw.syn (fileAt m.files j) (by simp [fileAt,List.getD,hil])).2
   rcases GF qs _ hft with rfl | hle
   · rw [e1];simpa using hdl
   · have h1:(fileAt m.files j).data.length≤kC m:=qv _ _ (List.mem_map.2 ⟨e0,he0,by rw [hef]⟩)
     have h2:=bI qs t
     rw [e1];omega
 have happ0:bK m1 j ([]:List (List UInt8))=m1:=by
   unfold bK
   rw [Iz (by simp)]
 refine ⟨fun y w'=>∃i:Nat,y=(i:Int)∧i≤k∧aj w0 X w' gd ps (bK m1 j (qs.take i)) N,fun y _=>k-y.toNat,⟨0,rfl,by omega,by rw [List.take_zero,happ0];exact hD4⟩,?_⟩
 rintro y w5 ⟨i,rfl,hi,hD5⟩
 refine ⟨fun hlt=>?_,fun hge=>?_⟩
 · have hi':i<k:=by simp at hlt;omega
   obtain ⟨hr,h2⟩:=hq hD5
   obtain ⟨b,o,a',n',c',ha,hv,hrd,q⟩:=ixS hr.cells h2 (i:=i) (by omega)
   have hln:=hrd.bB
   obtain ⟨p,hps,hp,hS⟩:=hD5
   have hjl:j<(bK m1 j (qs.take i)).files.length:=by rw [dU,lZ,e1];exact hil
   obtain ⟨f,hf,hpg,hfm⟩:=hp.file hjl
   have hfm2:fileAt (bK m1 j (qs.take i)).files j=⟨(fileAt m1.files j).data++(qs.take i).flatten,(fileAt m1.files j).syn⟩:=by rw [dU,jk (by rw [e1];exact hil)]
   have hfd:f.data=(fileAt m1.files j).data++(qs.take i).flatten:=by rw [hfm2] at hfm;exact (congrArg b8.data hfm).symm
   have hfs:f.syn=(fileAt m1.files j).syn:=by rw [hfm2] at hfm;exact (congrArg b8.syn hfm).symm
   have hptr:nI ps j=.pointer (some ⟨f.g,0,none⟩):=by rw [←hps];show Value.pointer (some ⟨p.ps.getD j 0,0,none⟩)=_;rw [hpg]
   have hfo:=hS.perm (tv hf (dM gd _ p) N)
   have htk:=gM (ls:=qs) (i:=i) (by omega)
   have hb1:=hbound (i+1)
   rw [htk,List.length_append] at hb1
   have hfl:f.data.length=(fileAt m1.files j).data.length+(qs.take i).flatten.length:=by rw [hfd,List.length_append]
   obtain ⟨va,vc,w6,r6,h6⟩:=hfo.bJ (i:=1) rfl hrd (by omega)
   obtain ⟨w7,r7,h7⟩:=h6.stL (i:=0) (o:=0) (off:=0) (T:=26) (v:=.slice va (f.data.length+n') vc) rfl (bsS _) rfl (by simp) rfl
   let f':FR:=⟨f.g,va,vc,f.data++qs.getD i [],f.syn⟩
   have hf'l:f'.data.length=f.data.length+n':=by show (f.data++qs.getD i []).length=_;rw [List.length_append,hln]
   have h8:St w0 X w7 (f'.blk::f'.row::(dM gd (bK m1 j (qs.take i)) p++DR (p.FL.eraseIdx j) N)):=by
     unfold FR.blk FR.row FR.val
     rw [hf'l]
     exact h7
   have hsyn:f.syn≤f.data.length:=by
     have:=hp.wf.syn (fileAt (bK m1 j (qs.take i)).files j) (by simp [fileAt,List.getD,hjl])
     rw [hfm] at this
     exact this.1
   obtain ⟨hp',hps'⟩:=hp.tq (f':=f') hf rfl ⟨by rw [hf'l];show f.syn≤_;omega,by rw [hf'l];omega⟩
   have h9:=St.tq hf hps' h8
   refine ⟨b,o,ha,by omega,by omega,_,_,_,q w5 hr.cells,f.g,0,hptr,_,_,_,(St.wP hS hf).1,va,_,vc,w6,r6,f.g,0,hptr,w7,r7,⟨i+1,ay hi' (by omega),by omega,?_⟩,aB hi' (by omega)⟩
   have hmm:bK m1 j (qs.take (i+1))= { bK m1 j (qs.take i) with files:=gw (bK m1 j (qs.take i)).files j fun _=>f'.m } :=by
     have e0:bK m1 j (qs.take (i+1))= { m1 with files:=gw m1.files j fun f=>⟨f.data++(qs.take (i+1)).flatten,f.syn⟩ } :=rfl
     have e1':({ bK m1 j (qs.take i) with files:=gw (bK m1 j (qs.take i)).files j fun _=>f'.m } :ah)= { m1 with files:=gw (bK m1 j (qs.take i)).files j fun _=>f'.m } :=rfl
     rw [e0,e1',dU,G6 (by rw [e1];exact hil),htk]
     have e2':gw m1.files j (fun f=>⟨f.data++((qs.take i).flatten++qs.getD i []),f.syn⟩)=gw m1.files j fun _=>f'.m:=by
       unfold gw
       have:(⟨(fileAt m1.files j).data++((qs.take i).flatten++qs.getD i []),(fileAt m1.files j).syn⟩:b8)=f'.m:=by
         show _=(⟨f.data++qs.getD i [],f.syn⟩:b8)
         rw [hfd,hfs,List.append_assoc]
       simp only [this]
     rw [e2']
   rw [hmm]
   exact ⟨_,hps'.trans hps,hp',h9⟩
 · have hi':i=k:=by simp at hge;omega
   rw [hi',List.take_of_length_le (by omega)] at hD5
   exact ⟨rfl,hD5⟩

theorem uj (n:Nm) (h:aj w0 X w gd ps m N) (hb:m.steps<4611686018427387904):
   Calls Tryz.prog 146 #[.pointer (some ⟨gd,0,none⟩),aK n] w fun e w'=>e=.returned (bG (cW m n).2)∧aj w0 X w' gd ps (cW m n).1 N:=by
 obtain ⟨mI,hI⟩:=eI
 have hw:=h.wf
 apply sC
 refine (iN n h).mono ?_
 rintro e w1 ⟨rfl,c1⟩
 have hD1:=h.same c1
 refine ⟨_,_,rfl,_,az hI _ _ _,fun hne=>?_,fun hok=>?_⟩
 · obtain ⟨e,he⟩:=Option.isSome_iff_exists.1 hne
   have:cW m n=(m,some e):=by unfold cW;rw [he]
   rw [this,he]
   exact ⟨rfl,hD1⟩
 have hfn:bW m n=none:=by simpa using hok
 rw [if_pos hfn]
 obtain ⟨hil,_⟩:=pE hw hfn
 have hap:cW m n=aT m fun m'=>jW m' (cA m n):=by simp only [cW,hfn]
 refine (jU hD1 hb).mono ?_
 rintro e w4 ⟨rfl,hD4⟩
 refine ⟨_,rfl,_,az hI _ _ _,fun hne=>?_,fun hok=>?_⟩
 · obtain ⟨e,he⟩:=Option.isSome_iff_exists.1 hne
   rw [hap]
   unfold aT
   rw [he]
   exact ⟨rfl,hD4⟩
 have hst:(bu m).2=none:=by simpa using hok
 have hres:cW m n=(jW (bu m).1 (cA m n),none):=by rw [hap];unfold aT;rw [hst]
 rw [hres]
 obtain ⟨m1,hm1⟩:∃m1,(bu m).1=m1:=⟨_,rfl⟩
 obtain ⟨e1,e2,e3,e4,_⟩:=iL m
 rw [hm1] at hD4 e1 e2 e3 e4 ⊢
 obtain ⟨j,hj⟩:∃j,cA m n=j:=⟨_,rfl⟩
 rw [hj] at hil ⊢
 obtain ⟨p,hps,hp,hS⟩:=hD4
 obtain ⟨f,hf,hpg,hfm⟩:=hp.file (i:=j) (by rw [e1];exact hil)
 have hptr:nI ps j=.pointer (some ⟨f.g,0,none⟩):=by rw [←hps];show Value.pointer (some ⟨p.ps.getD j 0,0,none⟩)=_;rw [hpg]
 have hfo:=hS.perm (tv hf (dM gd _ p) N)
 obtain ⟨w7,r7,h7⟩:=hfo.stL (i:=0) (o:=1) (off:=1) (T:=3) (v:=.int .i64 (f.data.length:Int)) rfl (Lo _) rfl (by simp) rfl
 let f':FR:=⟨f.g,f.a,f.c,f.data,f.data.length⟩
 have h8:St w0 X w7 (f'.blk::f'.row::(dM gd m1 p++DR (p.FL.eraseIdx j) N)):=h7
 have hdl:f.data.length≤1099511627776:=by
   have:=hp.wf.syn (fileAt m1.files j) (by simp [fileAt,List.getD,show j<m1.files.length by rw [e1];exact hil])
   rw [hfm] at this
   exact this.2
 obtain ⟨hp',hps'⟩:=hp.tq (f':=f') hf rfl ⟨Nat.le_refl _,hdl⟩
 have h9:=St.tq hf hps' h8
 refine ⟨f.g,0,hptr,_,_,_,(St.wP hS hf).1,f.g,0,hptr,w7,r7,rfl,?_⟩
 have hmm:jW m1 j= { m1 with files:=gw m1.files j fun _=>f'.m } :=by
   unfold jW gw
   rw [hfm];rfl
 rw [hmm]
 exact ⟨_,hps'.trans hps,hp',h9⟩

theorem Ni (op:BinOp) (hop:op=.eql∨op=.neq) (x y:Operand) (g:Nat) (w:World):(fF op 149 x y (.map (some g)) (.map none)).run Tryz.prog w=.ok (.bool (op== .neq)) w:=by
 have h1:∀d,(Op.equalIn (d+1) 149 (.map (some g)) (.map none)).run Tryz.prog w=.ok false w:=fun d=>by simp [Op.equalIn,run_underlying zH]
 have h2:(eqGuard op 149 x y (.map (some g)) (.map none)).run Tryz.prog w=.ok () w:=by rcases hop with rfl | rfl<;>rfl
 rcases hop with rfl | rfl<;>simp [fF,h2,binOp,Op.equal,show Op.maxDepth=9999+1 from rfl,h1 9999]

theorem Io (g:Nat) (es:Array MapEntry) (ck:Nat) (w:World) (hg:w.heap[g]?=some (.map es ck)):
   Calls Tryz.prog 78 #[.map (some g)] w fun e w'=>∃g',e=.returned (.map (some g'))∧w.heap.size≤g'∧Chg [] w w'∧w'.heap[g']?=some (.map es ck):=by
 apply fC
 refine ⟨_,Ni .eql (.inl rfl) _ _ g w,fun h=>by simp at h,fun _=>⟨.iface 149 (.map (some w.heap.size)),w.alloc (.map es ck),?_,_,?_,w.heap.size,rfl,Nat.le_refl _,Chg.alloc _ _,heap_alloc_new w _⟩⟩
 · rw [run_callFunc_extern Tryz.func172 (by kernel_rfl) (by kernel_rfl) (by kernel_rfl) (e:=Extern.MapsClone.clone) (by kernel_rfl)]
   have e:Extern.MapsClone.clone #[.iface 149 (.map (some g))]=(do
       match ←getObj g with
       | .map entries clock=>do pure (.iface 149 (.map (some (←newObj (.map entries clock)))))
       | _=>stuck "maps.clone: a map expected" :Sem Value):=rfl
   rw [e]
   have e2:(getObj g).run Tryz.prog w=.ok (.map es ck) w:=by simp [getObj,Sem.run,hg]
   simp only [Sem.run_bind,e2,Result.andThen_ok,run_newObj_alloc]
   rfl
 · simp [Instr.typeAssert,run_underlying zH]

theorem mJ (h:aj w0 X w gd ps m N) (hb:m.steps<4611686018427387904):
   Calls Tryz.prog 84 #[.pointer (some ⟨gd,0,none⟩)] w fun e w'=>e=.returned (bG (aL m).2)∧aj w0 X w' gd ps (aL m).1 N:=by
 obtain ⟨mI,hI⟩:=eI
 have hw:=h.wf
 apply oC
 refine (mS none 0 0 [] h ⟨Cells.nil _ _,rfl,Nat.le_refl _,fun _=>rfl⟩ (by omega)).mono ?_
 rintro e w1 ⟨rfl,rfl⟩
 refine ⟨_,rfl,_,az hI _ _ _,fun hne=>?_,fun hok=>?_⟩
 · obtain ⟨e,he⟩:=Option.isSome_iff_exists.1 hne
   have:aL m=(m,some e):=by unfold aL;rw [he]
   rw [this,he]
   exact ⟨rfl,h⟩
 have hfn:fI m []=none:=by simpa using hok
 have hap:aL m=aT m fN:=by unfold aL;rw [hfn]
 refine (jU h hb).mono ?_
 rintro e w2 ⟨rfl,hD2⟩
 refine ⟨_,rfl,_,az hI _ _ _,fun hne=>?_,fun hok=>?_⟩
 · obtain ⟨e,he⟩:=Option.isSome_iff_exists.1 hne
   rw [hap]
   unfold aT
   rw [he]
   exact ⟨rfl,hD2⟩
 have hst:(bu m).2=none:=by simpa using hok
 have hres:aL m=(fN (bu m).1,none):=by rw [hap];unfold aT;rw [hst]
 rw [hres]
 obtain ⟨m1,hm1⟩:∃m1,(bu m).1=m1:=⟨_,rfl⟩
 rw [hm1] at hD2 ⊢
 obtain ⟨p,hps,hp,hS⟩:=hD2
 have hg:w2.heap[p.gn]?=some (.map p.esn p.ckn):=hS.holds 1 _ rfl
 refine ⟨_,aj.cell hS (i:=6) (AY _) rfl,(Io p.gn p.esn p.ckn w2 hg).mono ?_⟩
 rintro e w3 ⟨g',rfl,hg',c3,hh⟩
 have h3:=hS.upd (i:=2) (r':=.blk g' (.map p.esn p.ckn)) rfl (c3.mono (by simp)) hh (by simp [Res.fp];exact .inr hg')
 obtain ⟨w4,r4,h4⟩:=h3.stL (i:=0) (o:=7) (off:=7) (T:=149) (v:=.map (some g')) rfl (O5 _) rfl (by simp [iU]) rfl
 obtain ⟨w5,r5,h5⟩:=h4.stL (i:=0) (o:=8) (off:=8) (T:=150) (v:=.slice none 0 0) rfl (LC _) rfl (by simp [iU]) rfl
 have h6:=h5.upd (i:=3) (r':=.row 164 3 (.slice none 0 0) 0 []) rfl (Chg.refl _ _) (World.ownsRow_nil _ _ _ _) (by simp [Res.fp,Value.ownBlock])
 refine ⟨_,rfl,w4,r4,w5,r5,rfl, { p with gs:=g',ess:=p.esn,cks:=p.ckn,Ms:=p.Mn,ca:=none,cc:=0 },hps,?_,h6⟩
 exact ⟨⟨rfl,fun k=>by show fA _ (replay m1.now (([]:List ChM).take k));rw [List.take_nil];exact hp.wf.dV,by simp [fN],hp.wf.syn,hp.wf.size⟩,hp.files,hp.arm,hp.bN,hp.oJ,hp.isn,hp.oJ,hp.isn⟩

end

end Go.Proofs.YtpmhjnhgpplmnaaGreatDoor
end

section
namespace Go.Proofs.YtpmhjnhgpplmnaaGreatDoor
open Go Sx
set_option maxRecDepth 8000

section
variable {w0 w w':World} {X:List Nat} {N N':List Res} {gd:Nat} {ps:List Nat} {m:ah}

theorem vJ (op:BinOp) (hop:op=.eql∨op=.neq) {T e:TypeId} (hT:Tryz.prog.underlying T=some (.pointer e)) (x y:Operand) (a:Option Addr) (w:World):(fF op T x y (.pointer a) (.pointer none)).run Tryz.prog w=.ok (.bool (if op== .neq then a.isSome else a.isNone)) w:=by
 have h1:∀d,(Op.equalIn (d+1) T (.pointer a) (.pointer none)).run Tryz.prog w=.ok a.isNone w:=fun d=>by cases a<;>simp [Op.equalIn,run_underlying hT]
 have h2:(eqGuard op T x y (.pointer a) (.pointer none)).run Tryz.prog w=.ok () w:=by rcases hop with rfl | rfl<;>rfl
 rcases hop with rfl | rfl<;>cases a<;>simp [fF,h2,binOp,Op.equal,show Op.maxDepth=9999+1 from rfl,h1 9999]

theorem N3 {gs:List Nat} {g:Nat} {es:Array MapEntry} {ck:Nat} {Mn d:Dir} (hE:bF kyE (vlE gs) es ck Mn) (hD:dA Ent.name Mn d) (hg:w.heap[g]?=some (.map es ck)) (n:Nm) (ok:Bool):
   (Instr.lookup 149 (.map (some g)) (aK n) true).run Tryz.prog w=.ok (.tuple #[((findD d n).map (vlE gs)).getD (.pointer none),.bool (findD d n).isSome]) w:=by
 have hl:=hE.BK (P:=Tryz.prog) (HM Mn) zH hg (id:=n) trivial pfZ
 have hf:=hD.find n
 rw [hl]
 cases hq:dN Ent.name Mn n with
 | none=>rw [hq] at hf;rw [show findD d n=none from hf.symm];rfl
 | some q=>rw [hq] at hf;rw [show findD d n=some q.2 from hf.symm];rfl

theorem pfT:Tryz.prog.underlying 162=some (.pointer 169):=Tryz.underlying162
theorem pfA (w:World):(isAgg 162).run Tryz.prog w=.ok false w:=Tryz.isAgg162 w
theorem jl {M:List Res} {x:Res} :(M++ [x])[M.length]?=some x:=by simp

theorem AB {M:List Res} {i g:Nat} {gs:List Nat} {es:Array MapEntry} {ck:Nat} {Mn d:Dir} (hS:St w0 X w M) (hi:M[i]?=some (.blk g (.map es ck))) (hE:bF kyE (vlE gs) es ck Mn) (hD:dA Ent.name Mn d) (c:ChM):
   Calls Tryz.prog 79 #[.map (some g),.agg (chC gs c).toArray] w fun e w'=>e=.returned (.tuple #[])∧∃es' ck' Mn',bF kyE (vlE gs) es' ck' Mn'∧dA Ent.name Mn' (mkD d c)∧St w0 X w' (M.set i (.blk g (.map es' ck'))):=by
 have him:=(List.getElem?_eq_some_iff.1 hi).1
 apply u7
 obtain ⟨g3,w1,r1,h1⟩:=hS.cz (P:=Tryz.prog) 164 (chC gs c)
 have hi1:∀y:Res,(M++ [y])[i]?=some (.blk g (.map es ck)):=fun y=>by rw [List.getElem?_append_left him];exact hi
 have hg1:w1.heap[g]?=some (.map es ck):=h1.holds i _ (hi1 _)
 have ldT:∀ {w'':World} {M':List Res},St w0 X w'' (M'++ [Res.arr g3 164 (chC gs c)])→(Instr.loadAt 9 (.pointer (some ⟨g3,2,none⟩))).run Tryz.prog w''=.ok (aK c.to) w''∧(Instr.loadAt 9 (.pointer (some ⟨g3,1,none⟩))).run Tryz.prog w''=.ok (aK c.fr) w'':=fun h=>
   ⟨h.ldL (o:=2) jl (Dz _) rfl rfl,h.ldL (o:=1) jl (Dz _) rfl rfl⟩
 have ldM:(Instr.loadAt 162 (.pointer (some ⟨g3,0,none⟩))).run Tryz.prog w1=.ok (match c.made with | some i=>nI gs i | none=>.pointer none) w1:=h1.ldL (o:=0) jl (pfA _) rfl rfl
 have setM:∀ {w'':World} {o:Obj},St w0 X w'' ((M++ [Res.arr g3 164 (chC gs c)]).set i (.blk g o))→St w0 X w'' (M.set i (.blk g o)++ [Res.arr g3 164 (chC gs c)]):=fun h=>by
   rw [List.set_append_left _ _ him] at h;exact h
 cases hm:c.made with
 | some k=>
   rw [hm] at ldM
   obtain ⟨es',ck',rU,hE'⟩:=hE.wE (P:=Tryz.prog) (HM Mn) zH hg1 (⟨c.to,k⟩:Ent) trivial
   have h2:=setM (St.yu h1 (i:=i) (o':=.map es' ck') (hi1 _))
   refine ⟨g3,w1,r1,_,ldM,_,vJ .neq (.inr rfl) pfT _ _ (some ⟨gs.getD k 0,0,none⟩) w1,fun _=>⟨_,(ldT h1).1,_,ldM,_,rU,rfl,es',ck',_,hE',?_,St.pop h2⟩,fun h=>by simp at h⟩
   have:mkD d c=ep Ent.name d ⟨c.to,k⟩:=by unfold mkD;rw [hm]
   rw [this]
   exact hD.upd _
 | none=>
   rw [hm] at ldM
   have hlk:=N3 hE hD hg1 c.fr true
   refine ⟨g3,w1,r1,_,ldM,_,vJ .neq (.inr rfl) pfT _ _ none w1,fun h=>by simp at h,fun _=>⟨_,(ldT h1).2,_,_,w1,hlk,fun hno=>?_,fun hyes=>?_⟩⟩
   · have hf:findD d c.fr=none:=by
       cases hq:findD d c.fr with
       | none=>rfl
       | some e=>rw [hq] at hno;simp at hno
     have:mkD d c=d:=by unfold mkD;rw [hm];simp only [hf]
     rw [this]
     refine ⟨rfl,es,ck,Mn,hE,hD,?_⟩
     have e:M.set i (.blk g (.map es ck))=M:=by
       obtain ⟨h1,h2⟩:=List.getElem?_eq_some_iff.1 hi
       rw [←h2,List.set_getElem_self]
     rw [e]
     exact St.pop h1
   · obtain ⟨e,hf⟩:∃e,findD d c.fr=some e:=by
       cases hq:findD d c.fr with
       | none=>rw [hq] at hyes;simp at hyes
       | some e=>exact ⟨e,rfl⟩
     have hfnd:∃j,dN Ent.name Mn c.fr=some (j,e):=by
       have h:=hD.find c.fr
       have hf':dw Ent.name d c.fr=some e:=hf
       rw [hf'] at h
       obtain ⟨⟨j,e'⟩,h1,h2⟩:=Option.map_eq_some_iff.1 h
       exact ⟨j,by rw [h1];simp only at h2;rw [h2]⟩
     obtain ⟨j,hj⟩:=hfnd
     obtain ⟨es',rD,hD1,_⟩:=hE.Gm (P:=Tryz.prog) (HM Mn) zH hg1 (id:=c.fr) trivial #[149,9] rfl 0
     obtain ⟨_,hE'⟩:=hD1 j e hj
     have hD':=hD.del hj
     have h2:=setM (St.yu h1 (i:=i) (o':=.map es' ck) (hi1 _))
     have hi2:(M.set i (.blk g (.map es' ck))++ [Res.arr g3 164 (chC gs c)])[i]?=some (.blk g (.map es' ck)):=by
       rw [List.getElem?_append_left (by simpa using him),List.getElem?_set_self him]
     have hval:((some e).map (vlE gs)).getD (.pointer none)=nI gs e.file:=rfl
     rw [hf,hval]
     have ldTo:=(ldT h2).1
     refine ⟨_,(ldT h1).2,_,_,rD,_,ldTo,fun w'=>∃es2 ck2 Mn2,bF kyE (vlE gs) es2 ck2 Mn2∧dA Ent.name Mn2 (mkD d c)∧St w0 X w' (M.set i (.blk g (.map es2 ck2))),⟨fun hne=>?_,fun heq=>?_⟩,?_⟩
     · rw [empty_eq] at hne
       have hto:¬c.to=[]:=by
         intro h0;rw [h0] at hne;simp at hne
       obtain ⟨es2,ck2,rU,hE2⟩:=hE'.wE (P:=Tryz.prog) (HM _) zH (h2.holds i _ hi2) (⟨c.to,e.file⟩:Ent) trivial
       have h3:=St.yu h2 (i:=i) (o':=.map es2 ck2) hi2
       rw [List.set_append_left _ _ (by simpa using him),List.set_set] at h3
       refine ⟨_,ldTo,_,rU,es2,ck2,_,hE2,?_,St.pop h3⟩
       have:mkD d c=ep Ent.name (eO Ent.name d c.fr) ⟨c.to,e.file⟩:=by unfold mkD;rw [hm];simp only [hf,if_neg hto]
       rw [this]
       exact hD'.upd _
     · rw [empty_eq] at heq
       have hto:c.to=[]:=List.eq_nil_of_length_eq_zero (by simpa using heq)
       refine ⟨es',ck,_,hE',?_,St.pop h2⟩
       have:mkD d c=eO Ent.name d c.fr:=by unfold mkD;rw [hm];simp only [hf,if_pos hto]
       rw [this]
       exact hD'
     · rintro w6 ⟨es2,ck2,Mn2,h1,h2,h3⟩
       exact ⟨rfl,es2,ck2,Mn2,h1,h2,h3⟩

theorem Sx.St.Ny {P:Program} {w0 w:World} {X:List Nat} {M:List Res} (h:St w0 X w M) {T n:Nat} {z v:List Value} (hz:∀w,(zeroValue T).run P w=.ok (.agg z.toArray) w) (hS:∀w,(sizeOf T).run P w=.ok n w) (hzl:z.length=n) (hv:v.length=n) (h1:∀u∈v,u.oneCell'=true):
   ∃g w1 w2,(Instr.alloc T true (.tuple #[])).run P w=.ok (.pointer (some ⟨g,0,none⟩)) w1∧(Instr.storeAt T (.pointer (some ⟨g,0,none⟩)) (.agg v.toArray)).run P w1=.ok () w2∧St w0 X w2 (M++ [.arr g T v]):=by
 obtain ⟨g,w1,r1,h2⟩:=h.aD hz
 obtain ⟨w2,r2,h3⟩:=h2.stA (i:=M.length) (v:=v) jl (hS _) hzl hv h1
 rw [List.set_append_right _ _ (Nat.le_refl _),Nat.sub_self] at h3
 exact ⟨g,w1,w2,r1,r2,h3⟩

theorem chZ (w:World):(zeroValue 164).run Tryz.prog w=.ok (.agg [Value.pointer none,aK [],aK []].toArray) w:=Tryz.zeroValue164 w
theorem HZ (w:World):(sizeOf 164).run Tryz.prog w=.ok 3 w:=Tryz.sizeOf164 w
theorem K2 (w:World):(isAgg 164).run Tryz.prog w=.ok true w:=Tryz.isAgg164 w

theorem DOk.change {p:DP} (hp:DOk m p) (c:ChM) (hc:c.made=none) (hto:c.to=[]∨cE c.to=true) {es:Array MapEntry} {ck:Nat} {Mn:Dir} (hE:bF kyE (vlE p.ps) es ck Mn) (hD:dA Ent.name Mn (mkD m.now c)) (ca:Option Addr) (cc:Nat):DOk (iO m c) { p with esn:=es,ckn:=ck,Mn:=Mn,ca:=ca,cc:=cc } :=by
 have hn:=hp.wf.dV
 have hok:fA m.files.length (mkD m.now c):=by
   unfold mkD
   rw [hc]
   cases hf:findD m.now c.fr with
   | none=>exact hn
   | some e=>
     obtain ⟨h1,h2⟩:=eB hf
     simp only
     split
     · exact hn.del _
     · rename_i hne
       refine (hn.del c.fr).ins (hn.ent e h1).1 (hto.resolve_left hne) (.inl ?_) fun x hx hxn hfe=>?_
       · have:=vw hf;have:=hn.len;omega
       · obtain ⟨h3,h4⟩:=l9.1 hx
         have:=hn.inj' h3 h1 hfe
         rw [this] at h4
         exact h4 h2
 exact ⟨hp.wf.snoc (Nat.le_refl _) hp.wf.syn (fun i hi=>by rw [hc] at hi;cases hi) hok,hp.files,hp.arm,hp.bN,hE,hD,hp.maps,hp.iss⟩

theorem St.LU {p:DP} {c:ChM} {vb:Option Addr} {vd:Nat} {w2:World}
   (h2:St w0 X w2 (((dM gd m p++DR p.FL N).set 3 (.row 164 3 (.slice vb (m.chs.length+1) vd) (m.chs.length+1) (m.chs.flatMap (chC p.ps)++chC p.ps c))).set 0 (.arr gd 152 ((iU m p).set 8 (.slice vb (m.chs.length+1) vd))))):
   St w0 X w2 (dM gd { m with chs:=m.chs++ [c] } { p with ca:=vb,cc:=vd } ++DR p.FL N):=by
 have el:(m.chs++ [c]).length=m.chs.length+1:=by simp
 have ef:(m.chs++ [c]).flatMap (chC p.ps)=m.chs.flatMap (chC p.ps)++chC p.ps c:=by simp
 unfold dM iU
 show St w0 X w2 (.arr gd 152 [_,_,_,_,_,_,_,_,.slice vb (m.chs++ [c]).length vd]:: .blk _ _:: .blk _ _:: .row _ _ (.slice vb (m.chs++ [c]).length vd) (m.chs++ [c]).length ((m.chs++ [c]).flatMap (chC p.ps))::_::_)
 simp only [el,ef]
 exact h2

set_option maxHeartbeats 1000000 in
theorem CZ (a b:Nm) (h:aj w0 X w gd ps m N) (hb:m.steps<4611686018427387904) (hc:m.chs.length<1000000000):
   Calls Tryz.prog 190 #[.pointer (some ⟨gd,0,none⟩),aK a,aK b] w fun e w'=>e=.returned (bG (dZ m a b).2)∧aj w0 X w' gd ps (dZ m a b).1 N:=by
 obtain ⟨mI,hI⟩:=eI
 apply qq
 obtain ⟨g,w1,r1,h1⟩:=(St.start w).lit Il [aK a,aK b] (by simp [Value.oneCell',aK]) (by simp)
 have hD1:=h.same h1.chg
 refine ⟨_,_,_,w1,r1,(mS _ _ _ [a,b] hD1 (h1.rd (i:=0) rfl) (by simp)).mono ?_⟩
 rintro e w2 ⟨rfl,rfl⟩
 refine ⟨_,rfl,_,az hI _ _ _,fun hne=>?_,fun hok=>?_⟩
 · obtain ⟨e,he⟩:=Option.isSome_iff_exists.1 hne
   have:dZ m a b=(m,some e):=by simp only [dZ,he]
   rw [this,he]
   exact ⟨rfl,hD1⟩
 have hrn:fI m [a,b]=none:=by simpa using hok
 have hgb:cE b=true:=by
   unfold fI at hrn
   split at hrn
   · cases hrn
   · split at hrn
     · rename_i hall;simp at hall;exact hall.2
     · cases hrn
 refine (iN a hD1).mono ?_
 rintro e w3 ⟨rfl,c3⟩
 have hD3:=hD1.same c3
 refine ⟨_,_,rfl,_,az hI _ _ _,fun hne=>?_,fun hok=>?_⟩
 · obtain ⟨e,he⟩:=Option.isSome_iff_exists.1 hne
   have:dZ m a b=(m,some e):=by simp only [dZ,hrn,he]
   rw [this,he]
   exact ⟨rfl,hD3⟩
 have hfn:bW m a=none:=by simpa using hok
 have hap:dZ m a b=aT m fun m=>iO m ⟨none,a,b⟩:=by simp only [dZ,hrn,hfn]
 refine (jU hD3 hb).mono ?_
 rintro e w4 ⟨rfl,hD4⟩
 refine ⟨_,rfl,_,az hI _ _ _,fun hne=>?_,fun hok=>?_⟩
 · obtain ⟨e,he⟩:=Option.isSome_iff_exists.1 hne
   rw [hap]
   unfold aT
   rw [he]
   exact ⟨rfl,hD4⟩
 have hst:(bu m).2=none:=by simpa using hok
 have hres:dZ m a b=(iO (bu m).1 ⟨none,a,b⟩,none):=by rw [hap];unfold aT;rw [hst]
 rw [hres]
 obtain ⟨m1,hm1⟩:∃m1,(bu m).1=m1:=⟨_,rfl⟩
 obtain ⟨e1,e2,e3,e4,_⟩:=iL m
 rw [hm1] at hD4 e1 e2 e3 e4 ⊢
 obtain ⟨p,hps,hp,hS⟩:=hD4
 obtain ⟨c,hcd⟩:∃c:ChM,(⟨none,a,b⟩:ChM)=c:=⟨_,rfl⟩
 have hcm:c.made=none:=by rw [←hcd]
 have hcv:(chC p.ps c)=[.pointer none,aK a,aK b]:=by rw [←hcd];rfl
 obtain ⟨g11,w5,w6,r5,r6,h6⟩:=hS.Ny (v:=chC p.ps c) chZ HZ rfl (jL _ _) (tL _ _)
 rw [hcv] at r6
 refine ⟨_,EY a b w4,g11,w5,r5,w6,r6,fun w'=>∃Y,St w0 X w' ((.arr gd 152 (iU m1 p)::Y)++ [.arr g11 164 (chC p.ps c)]),⟨_,h6.drew⟩,.map (some p.gn),?_,(chC p.ps c).toArray,?_,(AB (i:=1) h6.drew rfl hp.oJ hp.isn c).mono ?_⟩
 · rintro w' ⟨Y,hY⟩
   exact hY.ldL (i:=0) (o:=6) rfl (AY _) rfl rfl
 · rintro w' ⟨Y,hY⟩
   exact hY.ldA (l:=chC p.ps c) jl (K2 _) (HZ _) (jL _ _)
 rintro e w7 ⟨rfl,es',ck',Mn',hE',hD',h7⟩
 have hp7:({ p with esn:=es',ckn:=ck',Mn:=Mn' } :DP).ps=p.ps:=rfl
 obtain ⟨q,hq⟩:∃q,({ p with esn:=es',ckn:=ck',Mn:=Mn' } :DP)=q:=⟨_,rfl⟩
 have h7:St w0 X w7 ((dM gd m1 q++DR q.FL N)++ [.arr g11 164 (chC p.ps c)]):=by rw [←hq];exact h7
 have hqps:q.ps=p.ps:=by rw [←hq];rfl
 have h7d:=h7.drew
 obtain ⟨g8,w8,vb,vd,w9,r8,r9,h9,h8⟩:=h7d.sH (i:=3) (ty:=150) chT rfl (chC p.ps c) (jL _ _) (by decide) (tL _ _) (by rw [e3];omega) (by simp only [maxLen];rw [e3];omega)
 obtain ⟨w10,r10,h10⟩:=h9.stL (i:=0) (o:=8) (off:=8) (T:=150) (v:=.slice vb (m1.chs.length+1) vd) rfl (LC _) rfl (by simp [iU]) rfl
 have hlt:3<(dM gd m1 q++DR q.FL N).length:=by simp only [dM,List.length_append,List.length_cons];omega
 have h9':=h9
 have h8':=h8
 rw [List.set_append_left _ _ hlt] at h9'
 refine ⟨rfl,fun w'=>∃Y,St w0 X w' ((.arr gd 152 (iU m1 p)::Y)++ [.arr g11 164 (chC p.ps c)]),fun _ h=>h,?_,fun w'=>∃Y,St w0 X w' ((.arr gd 152 (iU m1 q)::Y)++ [.arr g11 164 (chC p.ps c)]),⟨_,h7d⟩,_,_,_,fun w' ⟨Y,hY⟩=>hY.ldL (i:=0) (o:=8) rfl (MR _) rfl rfl,(chC p.ps c).toArray,fun w' ⟨Y,hY⟩=>hY.ldA (l:=chC p.ps c) jl (K2 _) (HZ _) (jL _ _),_,_,_,w8,r8,fun w'=>∃Y,St w0 X w' ((.arr gd 152 (iU m1 q)::Y)++ [.arr g11 164 (chC p.ps c)]),fun _ h=>h,⟨_,h8⟩,vb,_,vd,w9,r9,fun w'=>∃Y,St w0 X w' ((.arr gd 152 (iU m1 q)::Y)++ [.arr g11 164 (chC p.ps c)]),fun _ h=>h,⟨_,h9'⟩,w10,r10,rfl,?_⟩
 · rw [←hq] at h7
   exact ⟨_,h7⟩
 · have hok:=hp.change c hcm (.inr (by rw [←hcd];exact hgb)) hE' hD' vb vd
   refine ⟨{ p with esn:=es',ckn:=ck',Mn:=Mn',ca:=vb,cc:=vd },hps,?_,?_⟩
   · rw [hcd];exact hok
   · rw [hcd]
     have hX:St w0 X w10 ((((dM gd m1 q++DR q.FL N).set 3 (.row 164 3 (.slice vb (m1.chs.length+1) vd) (m1.chs.length+1) (m1.chs.flatMap (chC q.ps)++chC q.ps c))).set 0 (.arr gd 152 ((iU m1 q).set 8 (.slice vb (m1.chs.length+1) vd))))++ [.arr g11 164 (chC p.ps c)]):=by
       rw [hqps]
       rw [hqps] at h10
       exact h10
     have hY:=St.LU (m:=m1) (p:=q) (c:=c) (gd:=gd) (N:=N) (vb:=vb) (vd:=vd) (St.pop hX)
     rw [←hq] at hY
     exact hY

end

end Go.Proofs.YtpmhjnhgpplmnaaGreatDoor
end

section
namespace Go.Proofs.YtpmhjnhgpplmnaaGreatDoor
open Go Sx
set_option maxRecDepth 8000

section
variable {w0 w w':World} {X:List Nat} {N N':List Res} {gd:Nat} {ps:List Nat} {m:ah}

set_option maxHeartbeats 1000000 in
theorem kY (a:Nm) (h:aj w0 X w gd ps m N) (hb:m.steps<4611686018427387904) (hc:m.chs.length<1000000000):
   Calls Tryz.prog 89 #[.pointer (some ⟨gd,0,none⟩),aK a] w fun e w'=>e=.returned (bG (aM m a).2)∧aj w0 X w' gd ps (aM m a).1 N:=by
 obtain ⟨mI,hI⟩:=eI
 apply pR
 refine (iN a h).mono ?_
 rintro e w3 ⟨rfl,c3⟩
 have hD3:=h.same c3
 refine ⟨_,_,rfl,_,az hI _ _ _,fun hne=>?_,fun hok=>?_⟩
 · obtain ⟨e,he⟩:=Option.isSome_iff_exists.1 hne
   have:aM m a=(m,some e):=by simp only [aM,he]
   rw [this,he]
   exact ⟨rfl,hD3⟩
 have hfn:bW m a=none:=by simpa using hok
 have hap:aM m a=aT m fun m=>iO m ⟨none,a,[]⟩:=by simp only [aM,hfn]
 refine (jU hD3 hb).mono ?_
 rintro e w4 ⟨rfl,hD4⟩
 refine ⟨_,rfl,_,az hI _ _ _,fun hne=>?_,fun hok=>?_⟩
 · obtain ⟨e,he⟩:=Option.isSome_iff_exists.1 hne
   rw [hap]
   unfold aT
   rw [he]
   exact ⟨rfl,hD4⟩
 have hst:(bu m).2=none:=by simpa using hok
 have hres:aM m a=(iO (bu m).1 ⟨none,a,[]⟩,none):=by rw [hap];unfold aT;rw [hst]
 rw [hres]
 obtain ⟨m1,hm1⟩:∃m1,(bu m).1=m1:=⟨_,rfl⟩
 obtain ⟨e1,e2,e3,e4,_⟩:=iL m
 rw [hm1] at hD4 e1 e2 e3 e4 ⊢
 obtain ⟨p,hps,hp,hS⟩:=hD4
 obtain ⟨c,hcd⟩:∃c:ChM,(⟨none,a,[]⟩:ChM)=c:=⟨_,rfl⟩
 have hcm:c.made=none:=by rw [←hcd]
 have hcv:(chC p.ps c)=[.pointer none,aK a,aK []]:=by rw [←hcd];rfl
 obtain ⟨g11,w5,w6,r5,r6,h6⟩:=hS.Ny (v:=chC p.ps c) chZ HZ rfl (jL _ _) (tL _ _)
 rw [hcv] at r6
 refine ⟨_,HX a w4,g11,w5,r5,w6,r6,fun w'=>∃Y,St w0 X w' ((.arr gd 152 (iU m1 p)::Y)++ [.arr g11 164 (chC p.ps c)]),⟨_,h6.drew⟩,.map (some p.gn),?_,(chC p.ps c).toArray,?_,(AB (i:=1) h6.drew rfl hp.oJ hp.isn c).mono ?_⟩
 · rintro w' ⟨Y,hY⟩
   exact hY.ldL (i:=0) (o:=6) rfl (AY _) rfl rfl
 · rintro w' ⟨Y,hY⟩
   exact hY.ldA (l:=chC p.ps c) jl (K2 _) (HZ _) (jL _ _)
 rintro e w7 ⟨rfl,es',ck',Mn',hE',hD',h7⟩
 have hp7:({ p with esn:=es',ckn:=ck',Mn:=Mn' } :DP).ps=p.ps:=rfl
 obtain ⟨q,hq⟩:∃q,({ p with esn:=es',ckn:=ck',Mn:=Mn' } :DP)=q:=⟨_,rfl⟩
 have h7:St w0 X w7 ((dM gd m1 q++DR q.FL N)++ [.arr g11 164 (chC p.ps c)]):=by rw [←hq];exact h7
 have hqps:q.ps=p.ps:=by rw [←hq];rfl
 have h7d:=h7.drew
 obtain ⟨g8,w8,vb,vd,w9,r8,r9,h9,h8⟩:=h7d.sH (i:=3) (ty:=150) chT rfl (chC p.ps c) (jL _ _) (by decide) (tL _ _) (by rw [e3];omega) (by simp only [maxLen];rw [e3];omega)
 obtain ⟨w10,r10,h10⟩:=h9.stL (i:=0) (o:=8) (off:=8) (T:=150) (v:=.slice vb (m1.chs.length+1) vd) rfl (LC _) rfl (by simp [iU]) rfl
 have hlt:3<(dM gd m1 q++DR q.FL N).length:=by simp only [dM,List.length_append,List.length_cons];omega
 have h9':=h9
 rw [List.set_append_left _ _ hlt] at h9'
 refine ⟨rfl,fun w'=>∃Y,St w0 X w' ((.arr gd 152 (iU m1 p)::Y)++ [.arr g11 164 (chC p.ps c)]),fun _ h=>h,?_,fun w'=>∃Y,St w0 X w' ((.arr gd 152 (iU m1 q)::Y)++ [.arr g11 164 (chC p.ps c)]),⟨_,h7d⟩,_,_,_,fun w' ⟨Y,hY⟩=>hY.ldL (i:=0) (o:=8) rfl (MR _) rfl rfl,(chC p.ps c).toArray,fun w' ⟨Y,hY⟩=>hY.ldA (l:=chC p.ps c) jl (K2 _) (HZ _) (jL _ _),_,_,_,w8,r8,fun w'=>∃Y,St w0 X w' ((.arr gd 152 (iU m1 q)::Y)++ [.arr g11 164 (chC p.ps c)]),fun _ h=>h,⟨_,h8⟩,vb,_,vd,w9,r9,fun w'=>∃Y,St w0 X w' ((.arr gd 152 (iU m1 q)::Y)++ [.arr g11 164 (chC p.ps c)]),fun _ h=>h,⟨_,h9'⟩,w10,r10,rfl,?_⟩
 · rw [←hq] at h7
   exact ⟨_,h7⟩
 · have hok:=hp.change c hcm (.inl (by rw [←hcd])) hE' hD' vb vd
   refine ⟨{ p with esn:=es',ckn:=ck',Mn:=Mn',ca:=vb,cc:=vd },hps,?_,?_⟩
   · rw [hcd];exact hok
   · rw [hcd]
     have hX:St w0 X w10 ((((dM gd m1 q++DR q.FL N).set 3 (.row 164 3 (.slice vb (m1.chs.length+1) vd) (m1.chs.length+1) (m1.chs.flatMap (chC q.ps)++chC q.ps c))).set 0 (.arr gd 152 ((iU m1 q).set 8 (.slice vb (m1.chs.length+1) vd))))++ [.arr g11 164 (chC p.ps c)]):=by
       rw [hqps]
       rw [hqps] at h10
       exact h10
     have hY:=St.LU (m:=m1) (p:=q) (c:=c) (gd:=gd) (N:=N) (vb:=vb) (vd:=vd) (St.pop hX)
     rw [←hq] at hY
     exact hY

structure Nl (m:ah) (p:DP):Prop where
 okn:fA m.files.length m.now
 Pc:∀f∈m.files,f.syn≤f.data.length∧f.data.length≤1099511627776
 size:0≤m.size∧m.size≤67108864
 files:p.FL.map FR.m=m.files
 arm:∀k,m.arm=some k→p.av=(k:Int)∧k≤9223372036854775807
 bN:E2 m.bN p.fa p.fn p.fc p.F
 oJ:bF kyE (vlE p.ps) p.esn p.ckn p.Mn
 isn:dA Ent.name p.Mn m.now
theorem DOk.mem {p:DP} (hp:DOk m p):Nl m p:=⟨hp.wf.dV,hp.wf.syn,hp.wf.size,hp.files,hp.arm,hp.bN,hp.oJ,hp.isn⟩

end

end Go.Proofs.YtpmhjnhgpplmnaaGreatDoor
end

section
namespace Go.Proofs.YtpmhjnhgpplmnaaGreatDoor
open Go Sx
set_option maxRecDepth 8000

section
variable {w0 w w':World} {X:List Nat} {N N':List Res} {gd:Nat} {ps:List Nat} {m:ah}

theorem G5 (n:Nm) (h:aj w0 X w gd ps m N):
   Calls Tryz.prog 57 #[.pointer (some ⟨gd,0,none⟩),aK n] w fun e w'=>∃a k c,e=.returned (.tuple #[.slice a k c,bG (bW m n)])∧aY w w' a k c (oW m n):=by
 obtain ⟨mI,hI⟩:=eI
 apply tM
 refine (iN n h).mono ?_
 rintro e w1 ⟨rfl,c1⟩
 refine ⟨_,_,rfl,_,az hI _ _ _,fun hne=>?_,fun hok=>?_⟩
 · refine ⟨none,0,0,rfl,?_⟩
   have:oW m n=[]:=by unfold oW;rw [if_pos hne]
   rw [this]
   exact aY.after (aY.nil _) c1
 have hfn:bW m n=none:=by simpa using hok
 obtain ⟨p,hps,hp,hS⟩:=h.same c1
 obtain ⟨hil,_⟩:=pE hp.wf hfn
 obtain ⟨f,hf,hpg,hfm⟩:=hp.file hil
 have hptr:nI ps (cA m n)=.pointer (some ⟨f.g,0,none⟩):=by rw [←hps];show Value.pointer (some ⟨p.ps.getD _ 0,0,none⟩)=_;rw [hpg]
 obtain ⟨l1,l2,l3⟩:=St.wP hS hf
 have hdl:f.data.length≤1099511627776:=by
   have:=hp.wf.syn (fileAt m.files (cA m n)) (by simp [fileAt,List.getD,hil])
   rw [hfm] at this
   exact this.2
 rw [if_pos hfn]
 refine ⟨f.g,0,hptr,_,_,_,l1,(mQ _ _ _ _ _ l3 (by omega)).mono ?_⟩
 rintro e w2 ⟨a',c',rfl,h2⟩
 refine ⟨_,_,_,rfl,a',_,c',by rw [hfn];rfl,?_⟩
 have:oW m n=f.data:=by unfold oW;rw [if_neg (by rw [hfn];simp),hfm]
 rw [this]
 exact aY.after h2 c1

theorem Ci (n:Nm) (i k:Int) (hi: -9223372036854775808≤i∧i≤9223372036854775807) (hk: -9223372036854775808≤k∧k≤9223372036854775807) (h:aj w0 X w gd ps m N):
   Calls Tryz.prog 138 #[.pointer (some ⟨gd,0,none⟩),aK n,.int .i64 i,.int .i64 k] w fun e w'=>∃a u c,e=.returned (.tuple #[.slice a u c,bG (gD m n i k)])∧aY w w' a u c (eL m n i k):=by
 obtain ⟨mI,hI⟩:=eI
 apply pZ
 refine (iN n h).mono ?_
 rintro e w1 ⟨rfl,c1⟩
 refine ⟨_,_,rfl,_,az hI _ _ _,fun hne=>?_,fun hok=>?_⟩
 · obtain ⟨e,he⟩:=Option.isSome_iff_exists.1 hne
   have h1:gD m n i k=some e:=by unfold gD;rw [he]
   have h2:eL m n i k=[]:=by unfold eL;rw [if_pos (by rw [h1];rfl)]
   rw [h1,h2,he]
   exact ⟨none,0,0,rfl,aY.after (aY.nil _) c1⟩
 have hfn:bW m n=none:=by simpa using hok
 obtain ⟨p,hps,hp,hS⟩:=h.same c1
 obtain ⟨hil,_⟩:=pE hp.wf hfn
 obtain ⟨f,hf,hpg,hfm⟩:=hp.file hil
 have hptr:nI ps (cA m n)=.pointer (some ⟨f.g,0,none⟩):=by rw [←hps];show Value.pointer (some ⟨p.ps.getD _ 0,0,none⟩)=_;rw [hpg]
 obtain ⟨l1,l2,l3⟩:=St.wP hS hf
 have hdl:f.data.length≤1099511627776:=by
   have:=hp.wf.syn (fileAt m.files (cA m n)) (by simp [fileAt,List.getD,hil])
   rw [hfm] at this
   exact this.2
 have hrE:gD m n i k=if oF f.data i k then some 7 else none:=by unfold gD;rw [hfn];simp only [hfm]
 rw [if_pos hfn]
 refine ⟨fun x w'=>x=oF f.data i k∧w'=w1,⟨fun hneg=>⟨?_,rfl⟩,fun hpos=>⟨f.g,0,hptr,_,_,_,l1,fun hgt=>⟨?_,rfl⟩,fun hle=>⟨f.g,0,hptr,_,_,_,l1,?_,rfl⟩⟩⟩,?_⟩
 · unfold oF;rw [hneg];rfl
 · unfold oF;rw [hpos,hgt];rfl
 · unfold oF
   simp only [Bool.or_eq_false_iff,decide_eq_false_iff_not] at hpos hle
   rw [wrap_i64 (by omega) (by omega),decide_eq_false hpos.1,decide_eq_false hpos.2,decide_eq_false hle];rfl
 · rintro x w2 ⟨rfl,rfl⟩
   refine ⟨fun hbad=>?_,fun hgd=>?_⟩
   · have h1:gD m n i k=some 7:=by rw [hrE,if_pos hbad]
     have h2:eL m n i k=[]:=by unfold eL;rw [if_pos (by rw [h1];rfl)]
     rw [h1,h2]
     exact ⟨none,0,0,rfl,aY.after (aY.nil _) c1⟩
   · have h1:gD m n i k=none:=by rw [hrE,if_neg (by rw [hgd];simp)]
     have h2:eL m n i k=(f.data.drop i.toNat).take k.toNat:=by unfold eL;rw [if_neg (by rw [h1];simp),hfm]
     rw [h1,h2]
     unfold oF at hgd
     simp only [Bool.or_eq_false_iff,decide_eq_false_iff_not] at hgd
     obtain ⟨⟨⟨g1,g2⟩,g3⟩,g4⟩:=hgd
     have wr:IntKind.wrap .i64 (i+k)=i+k:=wrap_i64 (by omega) (by omega)
     have hle:=l3.le
     refine ⟨f.g,0,hptr,_,_,_,l1,by omega,by rw [wr];omega,by rw [wr];omega,fun a' hsub=>?_⟩
     have hlt:(IntKind.wrap .i64 (i+k)).toNat=i.toNat+k.toNat:=by rw [wr];omega
     have hs:=Rd.sub l3 hsub (hh:=i.toNat+k.toNat) (by omega) (by omega) (by omega) (Nat.le_refl _)
     have e2:((bv f.data).drop (i.toNat*1)).take ((i.toNat+k.toNat-i.toNat)*1)=bv ((f.data.drop i.toNat).take k.toNat):=by simp [jI,fB]
     rw [e2] at hs
     rw [hlt]
     refine (mQ _ _ _ _ _ hs (by omega)).mono ?_
     rintro e w3 ⟨a3,c3,rfl,h3⟩
     exact ⟨_,_,_,rfl,a3,_,c3,rfl,aY.after h3 c1⟩

theorem EK (h:aj w0 X w gd ps m N):Calls Tryz.prog 61 #[.pointer (some ⟨gd,0,none⟩)] w fun e w'=>e=.returned (.int .i64 (m.steps:Int))∧w'=w:=by
 obtain ⟨p,hps,hp,hS⟩:=h
 apply rK
 exact ⟨_,aj.cell hS (i:=0) (jv _) rfl,rfl,rfl⟩
theorem uY (h:aj w0 X w gd ps m N):Calls Tryz.prog 64 #[.pointer (some ⟨gd,0,none⟩)] w fun e w'=>e=.returned (.bool m.down)∧w'=w:=by
 obtain ⟨p,hps,hp,hS⟩:=h
 apply rS
 exact ⟨_,aj.cell hS (i:=1) (KI _) rfl,rfl,rfl⟩

abbrev zv (l:List Int):List Value:=l.map (Value.int .i64)
theorem OW:gz Tryz.prog 29 3 1 8 (.int .i64 0):=⟨by kernel_rfl,⟨Tryz.t3,by kernel_rfl,by kernel_rfl,by kernel_rfl,by kernel_rfl⟩,rfl,by decide⟩

theorem EA:Tryz.prog.built 152=fun parts=>Instr.fill (fun i=>(#[(0,5),(5,1),(6,1),(7,1),(8,1)]:Array (Nat×Nat))[i]?) #[.int .i64 0,.bool false,.bool false,.int .i64 0,.slice none 0 0,.int .i64 0,.map none,.map none,.slice none 0 0] parts:=by kernel_rfl
theorem EJ (s:Int) (g1 g2:Nat) (w:World):(Instr.build 152 #[(1,.int .i64 s),(2,.map (some g1)),(3,.map (some g2))]).run Tryz.prog w=.ok (.agg #[.int .i64 0,.bool false,.bool false,.int .i64 0,.slice none 0 0,.int .i64 s,.map (some g1),.map (some g2),.slice none 0 0]) w:=by
 apply run_build
 rw [EA]
 show Instr.fill _ _ [(1,_),(2,_),(3,_)]=_
 rw [aC (off:=5) (sz:=1) rfl rfl (by simp),aC (off:=6) (sz:=1) rfl rfl (by simp [Value.cells]),aC (off:=7) (sz:=1) rfl rfl (by simp [Value.cells])]
 rfl

theorem Gv {s:Int} (h:0≤s∧s≤67108864):WFD (jG s):=
 ⟨rfl,fun k=>by show fA _ (replay [] (([]:List ChM).take k));rw [List.take_nil];exact HV _,by simp [jG],by simp [jG],h⟩

theorem rW (s:Int) (w:World):Calls Tryz.prog 55 #[.int .i64 s] w fun e w'=>(s<0∨67108864<s)∧e=.returned (.tuple #[.pointer none,bG (some 7)])∧w'=w∨¬(s<0∨67108864<s)∧∃gd,e=.returned (.tuple #[.pointer (some ⟨gd,0,none⟩),bG none])∧aj w [] w' gd [] (jG s) []:=by
 apply Ej
 refine ⟨fun h=>.inl ⟨by simpa using h,rfl,rfl⟩,fun h=>?_⟩
 have hs:¬(s<0∨67108864<s):=by simp at h;omega
 have h1:=(St.start w).add (r:=.blk w.heap.size (.map #[] 0)) (Chg.alloc _ _) (heap_alloc_new w _) (by simp [Res.fp])
 obtain ⟨w1,hw1⟩:∃w1,w.alloc (.map #[] 0)=w1:=⟨_,rfl⟩
 rw [hw1] at h1
 have h2:=h1.add (r:=.blk w1.heap.size (.map #[] 0)) (Chg.alloc _ _) (heap_alloc_new w1 _) (by simp [Res.fp])
 obtain ⟨g,w3,r3,h3⟩:=h2.cz (P:=Tryz.prog) 152 [.int .i64 0,.bool false,.bool false,.int .i64 0,.slice none 0 0,.int .i64 s,.map (some w.heap.size),.map (some w1.heap.size),.slice none 0 0]
 refine ⟨.map (some w.heap.size),w1,by rw [←hw1];rfl,.map (some w1.heap.size),_,rfl,_,EJ s _ _ _,g,w3,r3,.inr ⟨hs,g,rfl,?_⟩⟩
 have h4:=(h3.bZ 164 3).add (r:=Res.emp) (Chg.refl _ _) (Res.It _) (by simp [Res.emp,Res.fp,Value.ownBlock])
 refine ⟨{ av:=0,fa:=none,fn:=0,fc:=0,gn:=w.heap.size,gs:=w1.heap.size,ca:=none,cc:=0,FL:=[],F:=Res.emp,esn:= #[],ckn:=0,Mn:=[],ess:= #[],cks:=0,Ms:=[] },rfl,⟨Gv (by omega),rfl,fun k hk=>(by cases hk),⟨rfl,Nat.le_refl _,.inl rfl,by simp [jG]⟩,bF.nil _ _,dA.nil,bF.nil _ _,dA.nil⟩,?_⟩
 refine h4.perm ?_
 show List.Perm [_,_,_,_,_] [_,_,_,_,_]
 refine List.Perm.trans (l₂:=[.blk w.heap.size (.map #[] 0),.arr g 152 [.int .i64 0,.bool false,.bool false,.int .i64 0,.slice none 0 0,.int .i64 s,.map (some w.heap.size),.map (some w1.heap.size),.slice none 0 0],.blk w1.heap.size (.map #[] 0),.row 164 3 (.slice none 0 0) 0 [],Res.emp]) (.cons _ (.swap _ _ _)) (.swap _ _ _)

end

end Go.Proofs.YtpmhjnhgpplmnaaGreatDoor
end

section
namespace Go.Proofs.YtpmhjnhgpplmnaaGreatDoor
open Go.Shelf
def AE:Go.Shelf.Ren:=⟨fun | 7=>174 | 10=>255 | n=>n,fun | 23=>149 | 26=>9 | 3=>162 | 28=>262 | 0=>0 | 27=>261 | 33=>75 | 4=>4 | n=>n,fun | n=>n⟩
theorem L8:Go.Proofs.SlLaysZ.n7 Tryz.prog AE:= {
 mixed:=by kernel_rfl
 f7:=⟨Tryz.f174.name,by decide,Tryz.func174.trans (congrArg some (by kernel_rfl))⟩
 f10:=⟨Tryz.f255.name,by decide,Tryz.func255.trans (congrArg some (by kernel_rfl))⟩
 t0:=Tryz.underlying0
 a0:=Tryz.isAgg0
 z0:=Tryz.sizeOf0
 v0:=Tryz.zeroValue0
 t4:=Tryz.underlying4
 a4:=Tryz.isAgg4
 z4:=Tryz.sizeOf4
 v4:=Tryz.zeroValue4
 t23:=Tryz.underlying149
 a23:=Tryz.isAgg149
 z23:=Tryz.sizeOf149
 v23:=Tryz.zeroValue149
 t26:=Tryz.underlying9
 a26:=Tryz.isAgg9
 z26:=Tryz.sizeOf9
 v26:=Tryz.zeroValue9
 t27:=Tryz.underlying261
 a27:=Tryz.isAgg261
 z27:=Tryz.sizeOf261
 v27:=Tryz.zeroValue261
 t28:=Tryz.underlying262
 a28:=Tryz.isAgg262
 z28:=Tryz.sizeOf262
 v28:=Tryz.zeroValue262
 t33:=Tryz.underlying75
 a33:=Tryz.isAgg75
 z33:=Tryz.sizeOf75
 v33:=Tryz.zeroValue75 }
def vm:Go.Shelf.Ren:=⟨fun | 6=>173 | 8=>253 | 9=>254 | 11=>311 | 13=>216 | 12=>312 | 23=>288 | 24=>274 | 14=>346 | 15=>347 | 16=>348 | 17=>349 | 18=>350 | 19=>351 | 20=>352 | 21=>353 | 22=>354 | 25=>370 | 26=>332 | 27=>333 | 28=>371 | 29=>372 | 30=>373 | 31=>379 | n=>n,fun | 26=>9 | 28=>262 | 24=>166 | 0=>0 | 3=>3 | 37=>299 | 48=>370 | 50=>42 | 4=>4 | 40=>376 | 39=>375 | 45=>73 | 5=>5 | 9=>9 | 51=>434 | 55=>438 | 57=>467 | 58=>315 | 33=>75 | n=>n,fun | n=>n⟩
theorem Ld:Go.Proofs.SlLaysZ.n6 Tryz.prog vm:= {
 mixed:=by kernel_rfl
 f6:=⟨Tryz.f173.name,by decide,Tryz.func173.trans (congrArg some (by kernel_rfl))⟩
 f8:=⟨Tryz.f253.name,by decide,Tryz.func253.trans (congrArg some (by kernel_rfl))⟩
 f11:=⟨Tryz.f311.name,by decide,Tryz.func311.trans (congrArg some (by kernel_rfl))⟩
 t0:=Tryz.underlying0
 a0:=Tryz.isAgg0
 z0:=Tryz.sizeOf0
 v0:=Tryz.zeroValue0
 t24:=Tryz.underlying166
 a24:=Tryz.isAgg166
 z24:=Tryz.sizeOf166
 v24:=Tryz.zeroValue166
 t26:=Tryz.underlying9
 a26:=Tryz.isAgg9
 z26:=Tryz.sizeOf9
 v26:=Tryz.zeroValue9
 t28:=Tryz.underlying262
 a28:=Tryz.isAgg262
 z28:=Tryz.sizeOf262
 v28:=Tryz.zeroValue262
 i26:=by kernel_rfl }
def Hx:Go.Shelf.Ren:=⟨fun | 6=>254 | 8=>216 | 9=>312 | 19=>288 | 20=>274 | 21=>346 | 22=>347 | 23=>348 | 24=>349 | 25=>350 | 26=>351 | 27=>352 | 28=>353 | 29=>354 | 36=>370 | 31=>332 | 32=>333 | 37=>371 | 38=>372 | 39=>373 | 41=>379 | n=>n,fun | 27=>166 | 29=>9 | 3=>3 | 32=>299 | 26=>166 | 0=>0 | 44=>370 | 46=>42 | 4=>4 | 36=>376 | 35=>375 | 41=>73 | 5=>5 | 9=>9 | 53=>434 | 57=>438 | 63=>467 | 64=>315 | n=>n,fun | n=>n⟩
theorem LV:Go.Proofs.SlLaysM.n6 Tryz.prog Hx:= {
 mixed:=by kernel_rfl
 f6:=⟨Tryz.f254.name,by decide,Tryz.func254.trans (congrArg some (by kernel_rfl))⟩
 f8:=Tryz.func216.trans (congrArg some (by kernel_rfl))
 f9:=⟨Tryz.f312.name,by decide,Tryz.func312.trans (congrArg some (by kernel_rfl))⟩
 f19:=Tryz.func288.trans (congrArg some (by kernel_rfl))
 f20:=Tryz.func274.trans (congrArg some (by kernel_rfl))
 f21:=⟨Tryz.f346.name,by decide,Tryz.func346.trans (congrArg some (by kernel_rfl))⟩
 f22:=⟨Tryz.f347.name,by decide,Tryz.func347.trans (congrArg some (by kernel_rfl))⟩
 f23:=⟨Tryz.f348.name,by decide,Tryz.func348.trans (congrArg some (by kernel_rfl))⟩
 f24:=⟨Tryz.f349.name,by decide,Tryz.func349.trans (congrArg some (by kernel_rfl))⟩
 f25:=⟨Tryz.f350.name,by decide,Tryz.func350.trans (congrArg some (by kernel_rfl))⟩
 f26:=⟨Tryz.f351.name,by decide,Tryz.func351.trans (congrArg some (by kernel_rfl))⟩
 f27:=⟨Tryz.f352.name,by decide,Tryz.func352.trans (congrArg some (by kernel_rfl))⟩
 f28:=⟨Tryz.f353.name,by decide,Tryz.func353.trans (congrArg some (by kernel_rfl))⟩
 f29:=⟨Tryz.f354.name,by decide,Tryz.func354.trans (congrArg some (by kernel_rfl))⟩
 f31:=Tryz.func332.trans (congrArg some (by kernel_rfl))
 f32:=Tryz.func333.trans (congrArg some (by kernel_rfl))
 f36:=⟨Tryz.f370.name,by decide,Tryz.func370.trans (congrArg some (by kernel_rfl))⟩
 f37:=⟨Tryz.f371.name,by decide,Tryz.func371.trans (congrArg some (by kernel_rfl))⟩
 f38:=⟨Tryz.f372.name,by decide,Tryz.func372.trans (congrArg some (by kernel_rfl))⟩
 f39:=⟨Tryz.f373.name,by decide,Tryz.func373.trans (congrArg some (by kernel_rfl))⟩
 f41:=⟨Tryz.f379.name,by decide,Tryz.func379.trans (congrArg some (by kernel_rfl))⟩
 t0:=Tryz.underlying0
 a0:=Tryz.isAgg0
 z0:=Tryz.sizeOf0
 v0:=Tryz.zeroValue0
 t3:=Tryz.underlying3
 a3:=Tryz.isAgg3
 z3:=Tryz.sizeOf3
 v3:=Tryz.zeroValue3
 t4:=Tryz.underlying4
 a4:=Tryz.isAgg4
 z4:=Tryz.sizeOf4
 v4:=Tryz.zeroValue4
 t5:=Tryz.underlying5
 a5:=Tryz.isAgg5
 z5:=Tryz.sizeOf5
 v5:=Tryz.zeroValue5
 t9:=Tryz.underlying9
 a9:=Tryz.isAgg9
 z9:=Tryz.sizeOf9
 v9:=Tryz.zeroValue9
 t26:=Tryz.underlying166
 a26:=Tryz.isAgg166
 z26:=Tryz.sizeOf166
 v26:=Tryz.zeroValue166
 t27:=Tryz.underlying166
 a27:=Tryz.isAgg166
 z27:=Tryz.sizeOf166
 v27:=Tryz.zeroValue166
 t29:=Tryz.underlying9
 a29:=Tryz.isAgg9
 z29:=Tryz.sizeOf9
 v29:=Tryz.zeroValue9
 t32:=Tryz.underlying299
 a32:=Tryz.isAgg299
 z32:=Tryz.sizeOf299
 v32:=Tryz.zeroValue299
 t35:=Tryz.underlying375
 a35:=Tryz.isAgg375
 z35:=Tryz.sizeOf375
 v35:=Tryz.zeroValue375
 t36:=Tryz.underlying376
 a36:=Tryz.isAgg376
 z36:=Tryz.sizeOf376
 v36:=Tryz.zeroValue376
 t41:=Tryz.underlying73
 a41:=Tryz.isAgg73
 z41:=Tryz.sizeOf73
 v41:=Tryz.zeroValue73
 t44:=Tryz.underlying370
 a44:=Tryz.isAgg370
 z44:=Tryz.sizeOf370
 v44:=Tryz.zeroValue370
 t46:=Tryz.underlying42
 a46:=Tryz.isAgg42
 z46:=Tryz.sizeOf42
 v46:=Tryz.zeroValue42
 t53:=Tryz.underlying434
 a53:=Tryz.isAgg434
 z53:=Tryz.sizeOf434
 v53:=Tryz.zeroValue434
 t57:=Tryz.underlying438
 a57:=Tryz.isAgg438
 z57:=Tryz.sizeOf438
 v57:=Tryz.zeroValue438
 t63:=Tryz.underlying467
 a63:=Tryz.isAgg467
 z63:=Tryz.sizeOf467
 v63:=Tryz.zeroValue467
 t64:=Tryz.underlying315
 a64:=Tryz.isAgg315
 z64:=Tryz.sizeOf315
 v64:=Tryz.zeroValue315 }
end Go.Proofs.YtpmhjnhgpplmnaaGreatDoor
end

section
namespace Go.Proofs.YtpmhjnhgpplmnaaGreatDoor
open Go Sx Go.RowKit Go.Maps Go.Sort Go.Shelf
set_option maxRecDepth 8000

theorem Jt:∀l m:List UInt8,lexLt l m=true→l≤m
 | [],[],h=>by simp [lexLt] at h
 | [],_::_,_=>List.nil_le _
 | _::_,[],h=>by simp [lexLt] at h
 | a::l,b::m,h=>by
   rw [List.cons_le_cons_iff]
   simp only [lexLt] at h
   split at h
   · rename_i h1
     exact .inl (UInt8.lt_iff_toNat_lt.2 h1)
   · rename_i h1
     split at h
     · cases h
     · rename_i h2
       have:a=b:=UInt8.toNat_inj.1 (by omega)
       exact .inr ⟨this,Jt l m h⟩

theorem Fl {d:Dir} (h:gK Ent.name d) {ss:List (List UInt8)} (hp:ss.Perm (d.map Ent.name)):ss.mergeSort (fun x y=>decide (x≤y))=d.map Ent.name:=by
 rw [show ss.mergeSort (fun x y=>decide (x≤y))=(d.map Ent.name).mergeSort (fun x y=>decide (x≤y)) from mergeSort_of_perm hp]
 refine List.mergeSort_of_pairwise ?_
 rw [List.pairwise_map]
 exact List.Pairwise.imp (fun {a b} hab=>by simpa using Jt _ _ hab) h

def rJ (_:Value):Option (DataW Unit×List MemPlace):=some (.nil,[])
theorem y5 (e:Ent) (h:e.name.length≤64):keyOf Tryz.prog 9 (kyE e)=some (.string e.name):=by
 have h1:Tryz.prog.underlying 9=some .string:=Tryz.underlying9
 have h2:(⟨e.name.toArray⟩:ByteArray).size≤maxLen:=by show e.name.toArray.size≤_;simp [maxLen];omega
 simp only [keyOf,h1,kyE,aK,mapKey]
 simp [h2]

theorem FB {w:World} {g:Nat} {es:Array MapEntry} {ck:Nat} {gs:List Nat} {Mn d:Dir} (hE:bF kyE (vlE gs) es ck Mn) (hD:dA Ent.name Mn d) (hg:w.heap[g]?=some (.map es ck)) (hlen:Mn.length≤4096) (hn:∀e∈Mn,e.name.length≤64):
   ∃D:DataW Unit,w.ownsMap Tryz.prog 9 rJ g 4096 D∧(strKeys D).Perm (Mn.map Ent.name)∧Maps.size D=Mn.length:=by
 have hsz:=hE.len
 have hrd:∀x∈es.toList,∃r∈Mn,x.key=kyE r∧WideElems.rd Tryz.prog 9 rJ x=some (.string r.name,.nil):=by
   intro x hx
   obtain ⟨i,hi⟩:=List.getElem?_of_mem hx
   obtain ⟨r,h1,h2,h3⟩:=hE.at_ hi
   have hr:=List.mem_of_getElem? h1
   refine ⟨r,hr,h2,?_⟩
   unfold WideElems.rd
   rw [h2,y5 r (hn r hr)]
   rfl
 have hkeys:es.toList.map (fun x=>x.key)=Mn.map kyE:=by
   have:=congrArg (List.map Prod.fst) hE.AX
   rw [List.map_map,List.map_map] at this
   exact this
 have hnd:(Mn.map kyE).Nodup:=by
   have h1:Mn.Pairwise fun x y=>x.name≠y.name:=(hD.perm.pairwise_iff (fun {a b} (h:a.name≠b.name)=>h.symm)).2 (x9 hD.asc)
   rw [List.Nodup,List.pairwise_map]
   refine h1.imp fun {a b} h e=>h ?_
   have:aK a.name=aK b.name:=e
   exact encStr_inj this
 have F:WideElems.Fit Tryz.prog 9 rJ es ck:=⟨by rw [hsz];simp only [maxLen];omega,⟨hE.old,hE.born,by rw [hkeys];exact hnd⟩,fun x hx=>by obtain ⟨r,_,_,h⟩:=hrd x hx;exact ⟨_,h⟩⟩
 refine ⟨_,⟨es,ck,hg,F,by omega,rfl⟩,?_,?_⟩
 · show (((es.toList.map (WideElems.rg Tryz.prog 9 rJ)).foldr DataW.insert []).map fun p=>strOf p.1).Perm _
   refine ((WideShapes.sorted_perm _).map _).trans (List.Perm.of_eq ?_)
   rw [List.map_map]
   have e1:es.toList.map ((fun p:Lit×DataW Unit=>strOf p.1)∘WideElems.rg Tryz.prog 9 rJ)=es.toList.map fun x=>strOf ((keyOf Tryz.prog 9 x.key).getD (.bool false)):=by
     refine List.map_congr_left fun x hx=>?_
     obtain ⟨r,hr,hk,h⟩:=hrd x hx
     show strOf (WideElems.rg Tryz.prog 9 rJ x).1=_
     rw [WideElems.rg,h,hk,y5 r (hn r hr)]
     rfl
   rw [e1]
   have e2:es.toList.map (fun x=>strOf ((keyOf Tryz.prog 9 x.key).getD (.bool false)))=(es.toList.map fun x=>x.key).map fun k=>strOf ((keyOf Tryz.prog 9 k).getD (.bool false)):=by rw [List.map_map];rfl
   rw [e2,hkeys,List.map_map]
   refine List.map_congr_left fun r hr=>?_
   show strOf ((keyOf Tryz.prog 9 (kyE r)).getD (.bool false))=r.name
   rw [y5 r (hn r hr)]
   rfl
 · show ((es.toList.map (WideElems.rg Tryz.prog 9 rJ)).foldr DataW.insert []).length=_
   rw [(WideShapes.sorted_perm _).length_eq,List.length_map,Array.length_toList,hsz]

theorem KH (m:Nat):AnyZ.SortsIn Tryz.prog vm Fence.wide m:=
 ⟨fun blk off cap ss W hH hblk hsz=>callsIn_wide.2 (AnyM.slices_Sort_string LV blk off cap ss W hH hblk hsz),
  fun p cap W=>callsIn_wide.2 (AnyM.slices_Sort_string_none LV p cap W)⟩

def cg (m:ah):List Nm:=m.now.map Ent.name

section
variable {w0 w w':World} {X:List Nat} {N N':List Res} {gd:Nat} {ps:List Nat} {m:ah}

theorem Ie {p:DP} (hp:Nl m p) (hS:St w0 X w (dM gd m p++DR p.FL N)):
   Calls Tryz.prog 80 #[.pointer (some ⟨gd,0,none⟩)] w fun e w'=>∃a c,e=.returned (.slice a (cg m).length c)∧St w [] w' [.row 9 1 (.slice a (cg m).length c) (cg m).length ((cg m).map aK)]:=by
 have hg:w.heap[p.gn]?=some (.map p.esn p.ckn):=hS.holds 1 _ rfl
 have hln:p.Mn.length≤4096:=by rw [hp.isn.perm.length_eq];exact hp.okn.len
 have hgood:∀e∈p.Mn,e.name.length≤64:=by
   intro e he
   have:=(hp.okn.ent e (hp.isn.perm.mem_iff.1 he)).2
   unfold cE at this
   simp only [Bool.and_eq_true,decide_eq_true_eq] at this
   omega
 obtain ⟨D,hown,hperm,hsz⟩:=FB hp.oJ hp.isn hg hln hgood
 apply tC
 have hbl:=hown.lt
 have hseq:SeqGives Fence.wide 2 Tryz.prog 255 #[.pointer (some ⟨w.heap.size,0,none⟩)] encStr (fun ss=>ss.Perm (strKeys D)) (Maps.size D) (w.alloc (.cells #[.map (some p.gn)] 149)):=
   AnyZ.keys_gives (ρ:=AE) { L8 with } Fence.wide _ trivial rfl (by omega) w.heap.size p.gn 4096 D _ (by simp) (by simp) (by
     obtain ⟨es,clock,hb,Ft,hs,hD⟩:=hown
     exact ⟨es,clock,(Below.heap_alloc _ _ p.gn hbl).trans hb,Ft,hs,hD⟩)
 have cK:Calls Tryz.prog 174 #[.map (some p.gn)] w fun e w'=>e=.returned (.func (.func 255) #[] #[.pointer (some ⟨w.heap.size,0,none⟩)])∧w'=w.alloc (.cells #[.map (some p.gn)] 149):=callsIn_wide.1 (AnyZ.keys_in L8 Fence.wide 5 trivial rfl (some p.gn) w)
 have cS:=AnyZ.sorted_in Ld Fence.wide 5 trivial trivial trivial trivial rfl (by omega) (KH _) (enters_of Tryz.func254 (by kernel_rfl) rfl) 255 #[.pointer (some ⟨w.heap.size,0,none⟩)] trivial (enters_of Tryz.func255 (by kernel_rfl) rfl) _ _ (by rw [hsz];simp only [maxLen];omega) (by rw [hsz];omega) _ hseq
 change CallsIn _ _ Tryz.prog 173 _ _ _ at cS
 refine ⟨_,hS.ldL (i:=0) (o:=6) rfl (AY _) rfl rfl,cK.mono ?_⟩
 rintro e w1 ⟨rfl,rfl⟩
 refine ⟨_,rfl,(callsIn_wide.1 cS).mono ?_⟩
 rintro e w2 ⟨v,ss,rfl,hS',hrow,hnil,hb⟩
 have hss:ss.Perm (m.now.map Ent.name):=(hS'.trans hperm).trans (hp.isn.perm.map _)
 have hsort:=Fl hp.okn.asc hss
 have hlen:ss.length=(cg m).length:=by rw [hss.length_eq];rfl
 rw [hsort,hlen] at hrow
 have hb':Below w.heap.size w w2:=((Below.refl _ w).alloc (Nat.le_refl _) _).trans (hb.mono (by simp))
 have hrow':w2.ownsRow w.heap.size 9 1 v (cg m).length ((cg m).map aK):=iq hrow (by simp)
 have hst:St w [] w2 [.row 9 1 v (cg m).length ((cg m).map aK)]:=(St.start w).add (Chg.wJ hb') (iq hrow' (Nat.zero_le _)) (fun k hk=>(World.ownsRow.lt hrow' k (by simpa [Res.fp] using hk)).1)
 rcases hrow'.2 with ⟨rfl,hz⟩ | ⟨g,cap,cur,rfl,_⟩
 · refine ⟨none,0,0,rfl,none,0,by rw [hz],?_⟩
   rw [hz] at hst ⊢
   exact hst
 · exact ⟨_,_,_,rfl,_,_,rfl,hst⟩

end

end Go.Proofs.YtpmhjnhgpplmnaaGreatDoor
end

section
namespace Go.Proofs.YtpmhjnhgpplmnaaGreatDoor
open Go Sx
set_option maxRecDepth 8000

theorem tW {fs:List b8} (h:∀f∈fs,f.syn≤f.data.length∧f.data.length≤1099511627776) (i:Nat):(fileAt fs i).syn≤(fileAt fs i).data.length∧(fileAt fs i).data.length≤1099511627776:=by
 by_cases hi:i<fs.length
 · rw [fileAt,List.getD,List.getElem?_eq_getElem hi]
   exact h _ (List.getElem_mem hi)
 · rw [fileAt,List.getD,List.getElem?_eq_none (by omega)]
   simp [iJ]
section
variable {w0 w w':World} {X:List Nat} {N N':List Res} {gd:Nat} {ps:List Nat} {m:ah}

end

theorem Sx.St.ldP {P:Program} {w0 w:World} {X:List Nat} {M:List Res} (h:St w0 X w M) {i g o n:Nat} {l xs:List Value} {T' T:TypeId} (hi:M[i]?=some (.arr g T' l)) (hA:(isAgg T).run P w=.ok true w) (hS:(sizeOf T).run P w=.ok n w) (hx:(l.drop o).take n=xs) (hl:xs.length=n):
   (Instr.loadAt T (.pointer (some ⟨g,o,none⟩))).run P w=.ok (.agg xs.toArray) w:=by
 have hr:=h.ku hi
 have hrange:w.rangeAt g o xs:=by
   intro k v hk
   have hk3:k<n:=by have:=(List.getElem?_eq_some_iff.1 hk).1;omega
   rw [←hx,List.getElem?_take,if_pos hk3,List.getElem?_drop] at hk
   have:=hr _ _ hk
   rw [Nat.zero_add] at this
   exact this
 have:=cu (P:=P) hrange
 rw [hl] at this
 simp [Instr.loadAt,Instr.sureAddr,loadVar,hA,hS,this]

end Go.Proofs.YtpmhjnhgpplmnaaGreatDoor
end

section
namespace Go.Proofs.YtpmhjnhgpplmnaaGreatDoor
open Go Sx
set_option maxRecDepth 8000

theorem LW (l:List UInt8):(⟨l.toArray⟩:ByteArray).toList=l:=by rw [ByteArray.toList_eq]
theorem OK (l m:List UInt8) (x y:Operand) (w:World):(fF .geq 9 x y (.string ⟨l.toArray⟩) (.string ⟨m.toArray⟩)).run Tryz.prog w=.ok (.bool (!lexLt l m)) w:=by
 have h3:(eqGuard .geq 9 x y (.string ⟨l.toArray⟩) (.string ⟨m.toArray⟩)).run Tryz.prog w=.ok () w:=rfl
 have h4:binOp .geq 9 (.string ⟨l.toArray⟩) (.string ⟨m.toArray⟩)=pure (.bool (!lexLt l m)):=by
   have:binOp .geq 9 (.string ⟨l.toArray⟩) (.string ⟨m.toArray⟩)=pure (.bool (!Op.bytesLess (⟨l.toArray⟩:ByteArray).toList (⟨m.toArray⟩:ByteArray).toList)):=by simp [binOp,Op.stringOp]
   rw [this,LW,LW,CA]
 simp only [fF,Sem.run_bind,h3,Result.andThen_ok,h4,Sem.run_pure]

theorem snZ (w:World):(zeroValue 89).run Tryz.prog w=.ok (.agg ([aK [],.int .i64 0,.int .i64 0,.int .i64 0]++bv (List.replicate 32 0)).toArray) w:=Tryz.zeroValue89 w
theorem snA (w:World):(isAgg 89).run Tryz.prog w=.ok true w:=Tryz.isAgg89 w
theorem snS (w:World):(sizeOf 89).run Tryz.prog w=.ok 36 w:=Tryz.sizeOf89 w
theorem pqZ (w:World):(zeroValue 91).run Tryz.prog w=.ok (.agg ([.int .i64 0,.int .i64 0,.int .i64 0]:List Value).toArray) w:=Tryz.zeroValue91 w
theorem pqA (w:World):(isAgg 91).run Tryz.prog w=.ok true w:=Tryz.isAgg91 w
theorem pqS (w:World):(sizeOf 91).run Tryz.prog w=.ok 3 w:=Tryz.sizeOf91 w
theorem seA (w:World):(isAgg 44).run Tryz.prog w=.ok true w:=Tryz.isAgg44 w
theorem seS (w:World):(sizeOf 44).run Tryz.prog w=.ok 5 w:=Tryz.sizeOf44 w
theorem ssA (w:World):(isAgg 25).run Tryz.prog w=.ok false w:=Tryz.isAgg25 w
theorem psA (w:World):(isAgg 45).run Tryz.prog w=.ok false w:=Tryz.isAgg45 w

set_option maxHeartbeats 4000000 in
theorem qz (C:bH) (sa:Option Addr) (sn sc:Nat) (pa:Option Addr) (pn pc:Nat) (w:World) (h:AQ w C sa sn sc pa pn pc):
   Calls Tryz.prog 38 #[.agg (bP C sa sn sc pa pn pc).toArray] w fun e w'=>e=.returned (bG (if aI C then none else some 28))∧Chg [] w w':=by
 obtain ⟨mI,hI⟩:=eI
 have hsn:C.snaps.length=sn:=h.snaps.num (by decide)
 have hpn:C.aq.length=pn:=h.aq.num (by decide)
 apply uv
 obtain ⟨g,w1,r1,k1⟩:=(St.start w).cz (P:=Tryz.prog) 47 (bP C sa sn sc pa pn pc)
 let K:World→Prop:=fun w'=>St w [] w' [.arr g 47 (bP C sa sn sc pa pn pc)]
 have k1:K w1:=k1
 have ldI:∀ {w'} (o:Nat) (z:Int),(bP C sa sn sc pa pn pc)[o]?=some (.int .i64 z)→K w'→(Instr.loadAt 3 (.pointer (some ⟨g,o,none⟩))).run Tryz.prog w'=.ok (.int .i64 z) w':=fun o z hz h=>by
   have:=Sx.St.ldL h (i:=0) (o:=o) rfl (EN _) rfl hz
   exact this
 refine ⟨g,w1,r1,fun b w'=>b= !jA C∧K w',⟨_,ldI 0 _ rfl k1,fun h1=>⟨?_,k1⟩,fun h1=>⟨_,ldI 0 _ rfl k1,fun h2=>⟨?_,k1⟩,fun h2=>⟨_,ldI 1 _ rfl k1,fun h3=>⟨?_,k1⟩,fun h3=>⟨_,ldI 1 _ rfl k1,fun h4=>⟨?_,k1⟩,fun h4=>⟨_,k1.ldP (i:=0) (o:=2) (n:=5) (xs:=cZ C.set) rfl (seA _) (seS _) rfl rfl,(nv C.set h.poly w1).mono ?_⟩⟩⟩⟩⟩,?_⟩
 · simp only [decide_eq_true_eq] at h1
   rw [jA,decide_eq_false (by omega:¬1≤C.gen)];rfl
 · simp only [decide_eq_true_eq] at h2
   rw [jA,decide_eq_false (by omega:¬C.gen≤1099511627776)];simp
 · simp only [decide_eq_true_eq] at h3
   rw [jA,decide_eq_false (by omega:¬0≤C.next)];simp
 · simp only [decide_eq_true_eq] at h4
   rw [jA,decide_eq_false (by omega:¬C.next≤1099511627776)];simp
 · rintro e w2 ⟨rfl,c2⟩
   have k2:K w2:=Sx.St.same k1 c2
   simp only [decide_eq_false_iff_not] at h1 h2 h3 h4
   have hg4:jA C=(bO C.set&&(decide (C.snaps.length≤64)&&decide (C.aq.length≤1024))):=by
     rw [jA,decide_eq_true (by omega:1≤C.gen),decide_eq_true (by omega:C.gen≤1099511627776),decide_eq_true (by omega:0≤C.next),decide_eq_true (by omega:C.next≤1099511627776)];rfl
   refine ⟨_,rfl,_,az hI _ _ _,fun h5=>⟨?_,k2⟩,fun h5=>⟨_,_,_,k2.ldL (i:=0) (o:=7) rfl (ssA _) rfl rfl,fun h6=>⟨?_,k2⟩,fun h6=>⟨_,_,_,k2.ldL (i:=0) (o:=8) rfl (psA _) rfl rfl,?_,k2⟩⟩⟩
   · rw [hg4]
     cases hg:bO C.set
     · rfl
     · rw [hg] at h5;simp at h5
   · simp only [decide_eq_true_eq] at h6
     rw [hg4,decide_eq_false (by omega:¬C.snaps.length≤64)];simp
   · simp only [decide_eq_false_iff_not] at h6
     have hg:bO C.set=true:=by
       cases hg:bO C.set
       · rw [hg] at h5;simp at h5
       · rfl
     rw [hg4,hg,decide_eq_true (by omega:C.snaps.length≤64),Bool.true_and,Bool.true_and,←decide_not]
     exact decide_eq_decide.2 (by omega)
 rintro b w3 ⟨rfl,k3⟩
 refine ⟨fun hb=>⟨?_,k3.chg⟩,fun hb=>?_⟩
 · have:aI C=false:=by simp only [Bool.not_eq_true'] at hb;rw [aI,hb];rfl
   rw [this];rfl
 have hH:jA C=true:=by simpa using hb
 have hs64:C.snaps.length≤64∧C.aq.length≤1024:=by
   simp only [jA,Bool.and_eq_true,decide_eq_true_eq] at hH
   exact hH.2.2
 have hck:aI C=(C.snaps.all bM&&(DU C.snaps&&iR C.next (-1) C.aq)):=by rw [aI,hH];rfl
 refine ⟨_,_,_,k3.ldL (i:=0) (o:=7) rfl (ssA _) rfl rfl,fun x w'=>∃i:Nat,x=(i:Int)∧i≤sn∧(C.snaps.take i).all bM=true∧(List.range i).all (vK C.snaps)=true∧K w',fun x _=>sn-x.toNat,⟨0,rfl,by omega,by simp,by simp,k3⟩,?_⟩
 rintro x w4 ⟨i,rfl,hi,hG,hA,k4⟩
 refine ⟨fun hlt=>?_,fun hge=>?_⟩
 · have hi':i<sn:=by simp at hlt;omega
   obtain ⟨s,hs⟩:∃s,C.snaps[i]?=some s:=⟨_,List.getElem?_eq_getElem (by omega)⟩
   obtain ⟨b1,o1,ha1,ld1'⟩:=h.snaps.ld (P:=Tryz.prog) (by decide) snA snS hs
   obtain ⟨g4,w5,r5,k5⟩:=Sx.St.aD k4 snZ
   obtain ⟨w6,r6,k6⟩:=Sx.St.stA k5 (i:=1) (v:=eE s) rfl (snS _) (by simp) (fk s) (uL s)
   let S:World→Prop:=fun w'=>St w [] w' [.arr g 47 (bP C sa sn sc pa pn pc),.arr g4 89 (eE s)]
   have k6:S w6:=k6
   have k6d:S w6.drew:=Sx.St.drew k6
   have toK:∀ {w'},S w'→K w':=fun hw=>Sx.St.sub hw (by simp)
   refine ⟨b1,o1,ha1,by omega,by omega,_,ld1' w4 (h.snaps.au k4.chg),g4,w5,r5,w6,r6,fun b w'=>b= !(bM s&&vK C.snaps i)∧S w',⟨S,k6d,_,fun w' hw=>Sx.St.ldA hw (i:=1) (l:=eE s) rfl (snA _) (snS _) (fk s),(zF s (h.names s (List.mem_of_getElem? hs)) w6.drew).mono ?_⟩,?_⟩
   · rintro e w7 ⟨rfl,c7⟩
     have k7:S w7:=Sx.St.same k6d c7
     refine ⟨_,rfl,S,fun _ h=>h,k7,fun hb=>⟨?_,k7⟩,fun hb=>⟨fun h0=>?_,fun h0=>⟨?_,k7⟩⟩⟩
     · simp only [Bool.not_eq_true'] at hb
       rw [hb];rfl
     · have hi0:0<i:=by simp at h0;omega
       have hgs:bM s=true:=by simpa using hb
       obtain ⟨t,ht⟩:∃t,C.snaps[i-1]?=some t:=⟨_,List.getElem?_eq_getElem (by omega)⟩
       have eW:IntKind.wrap .i64 ((i:Int)-1)=((i-1:Nat):Int):=by rw [wrap_i64 (by omega) (by omega)];omega
       obtain ⟨b2,o2,ha2,ld2⟩:=h.snaps.fld (P:=Tryz.prog) (by decide) GQ (j:=0) ht rfl
       rw [eW]
       refine ⟨_,_,_,fun w' hw=>Sx.St.ldL hw (i:=0) (o:=7) rfl (ssA _) rfl rfl,b2,o2,ha2,by omega,by omega,_,fun w' hw=>ld2 w' (h.snaps.au (Sx.St.chg hw)),_,fun w' hw=>Sx.St.ldL hw (i:=1) (o:=0) rfl (GQ _) rfl rfl,_,fun w' _=>OK t.name s.name _ _ w',?_,k7⟩
       have hat:vK C.snaps i=lexLt t.name s.name:=by
         have:(i==0)=false:=by simp;omega
         rw [vK,this,ht,hs];rfl
       rw [hgs,hat];rfl
     · have hi0:i=0:=by simp at h0;omega
       have hgs:bM s=true:=by simpa using hb
       subst hi0
       rw [hgs];rfl
   · rintro b w8 ⟨rfl,k8⟩
     refine ⟨fun hb=>⟨?_,k8.chg⟩,fun hb=>⟨⟨i+1,ay hi' (by omega),by omega,?_,?_,toK k8⟩,aB hi' (by omega)⟩⟩
     · have hf:(bM s&&vK C.snaps i)=false:=by simpa only [Bool.not_eq_true'] using hb
       have:aI C=false:=by
         rw [hck]
         rcases Bool.and_eq_false_iff.1 hf with h1 | h1
         · have:C.snaps.all bM=false:=by
             rw [List.all_eq_false]
             exact ⟨s,List.mem_of_getElem? hs,by rw [h1];simp⟩
           rw [this];rfl
         · have:DU C.snaps=false:=by
             rw [DU,List.all_eq_false]
             exact ⟨i,List.mem_range.2 (by omega),by rw [h1];simp⟩
           rw [this];simp
       rw [this];rfl
     · have ht:(bM s&&vK C.snaps i)=true:=by simpa only [Bool.not_eq_false'] using hb
       rw [List.take_add_one,hs]
       simp only [Option.toList_some,List.all_append,List.all_cons,List.all_nil,Bool.and_true]
       rw [hG,(Bool.and_eq_true_iff.1 ht).1];rfl
     · have ht:(bM s&&vK C.snaps i)=true:=by simpa only [Bool.not_eq_false'] using hb
       rw [List.range_succ]
       simp only [List.all_append,List.all_cons,List.all_nil,Bool.and_true]
       rw [hA,(Bool.and_eq_true_iff.1 ht).2];rfl
 · have hi':i=sn:=by simp at hge;omega
   have hG':C.snaps.all bM=true:=by rw [hi',←hsn,List.take_length] at hG;exact hG
   have hA':DU C.snaps=true:=by rw [hi',←hsn] at hA;exact hA
   refine ⟨_,_,_,k4.ldL (i:=0) (o:=8) rfl (psA _) rfl rfl,fun z x w'=>∃j:Nat,x=(j:Int)∧j≤pn∧iR C.next (-1) C.aq=iR C.next z (C.aq.drop j)∧K w',fun _ x _=>pn-x.toNat,⟨0,rfl,by omega,by simp,k4⟩,?_⟩
   rintro z x w9 ⟨j,rfl,hj,hP,k9⟩
   refine ⟨fun hlt=>?_,fun hge=>?_⟩
   · have hj':j<pn:=by simp at hlt;omega
     obtain ⟨p,hp⟩:∃p,C.aq[j]?=some p:=⟨_,List.getElem?_eq_getElem (by omega)⟩
     have hdr:C.aq.drop j=p::C.aq.drop (j+1):=by
       rw [List.drop_eq_getElem_cons (by omega)]
       congr 1
       rw [List.getElem?_eq_getElem (by omega)] at hp
       exact Option.some.inj hp
     obtain ⟨b1,o1,ha1,ldp⟩:=h.aq.ld (P:=Tryz.prog) (by decide) pqA pqS hp
     obtain ⟨g7,w10,r10,k10⟩:=Sx.St.aD k9 pqZ
     obtain ⟨w11,r11,k11⟩:=Sx.St.stA k10 (i:=1) (v:=pkC p) rfl (pqS _) (by simp) rfl (fun v hv=>by simp [pkC] at hv;rcases hv with rfl | rfl | rfl<;>rfl)
     let S:World→Prop:=fun w'=>St w [] w' [.arr g 47 (bP C sa sn sc pa pn pc),.arr g7 91 (pkC p)]
     have k11:S w11:=k11
     have ldQ:∀(o:Nat) (z:Int),(pkC p)[o]?=some (.int .i64 z)→∀ {w'},S w'→(Instr.loadAt 3 (.pointer (some ⟨g7,o,none⟩))).run Tryz.prog w'=.ok (.int .i64 z) w':=fun o z hz {w'} hw=>by
       have:=Sx.St.ldL hw (i:=1) (o:=o) rfl (EN _) rfl hz
       exact this
     let okp:Bool:=decide (z<p.num)&&(decide (p.num<C.next)&&(decide (0≤p.size)&&decide (0≤p.count)))
     refine ⟨b1,o1,ha1,by omega,by omega,_,ldp w9 (h.aq.au k9.chg),g7,w10,r10,w11,r11,fun b w'=>b= !(decide (z<p.num)&&(decide (p.num<C.next)&&(decide (0≤p.size)&&decide (0≤p.count))))∧S w',⟨_,ldQ 0 _ rfl k11,fun h1=>⟨?_,k11⟩,fun h1=>⟨_,ldQ 0 _ rfl k11,_,ldI 1 _ rfl (Sx.St.sub k11 (by simp)),fun h2=>⟨?_,k11⟩,fun h2=>⟨_,ldQ 1 _ rfl k11,fun h3=>⟨?_,k11⟩,fun h3=>⟨_,ldQ 2 _ rfl k11,?_,k11⟩⟩⟩⟩,?_⟩
     · simp only [decide_eq_true_eq] at h1
       rw [decide_eq_false (by omega:¬z<p.num)];rfl
     · simp only [decide_eq_true_eq,ge_iff_le] at h2
       rw [decide_eq_false (by omega:¬p.num<C.next)];simp
     · simp only [decide_eq_true_eq] at h3
       rw [decide_eq_false (by omega:¬0≤p.size)];simp
     · simp only [decide_eq_false_iff_not,ge_iff_le] at h1 h2 h3
       rw [decide_eq_true (by omega:z<p.num),decide_eq_true (by omega:p.num<C.next),decide_eq_true (by omega:0≤p.size),Bool.true_and,Bool.true_and,Bool.true_and,←decide_not]
       exact decide_eq_decide.2 (by omega)
     · rintro b w12 ⟨rfl,k12⟩
       rw [hdr,iR] at hP
       refine ⟨fun hb=>⟨?_,k12.chg⟩,fun hb=>⟨_,ldQ 0 _ rfl k12,⟨j+1,ay hj' (by omega),by omega,?_,Sx.St.sub k12 (by simp)⟩,aB hj' (by omega)⟩⟩
       · simp only [Bool.not_eq_true'] at hb
         have:aI C=false:=by rw [hck,hP,hb];simp
         rw [this];rfl
       · simp only [Bool.not_eq_false'] at hb
         rw [hP,hb];rfl
   · have hj':j=pn:=by simp at hge;omega
     refine ⟨?_,k9.chg⟩
     have:aI C=true:=by
       rw [hck,hG',hA',hP,hj',←hpn,List.drop_length];rfl
     rw [this];rfl

end Go.Proofs.YtpmhjnhgpplmnaaGreatDoor
end

section
namespace Go.Proofs.YtpmhjnhgpplmnaaGreatDoor
open Go Sx
set_option maxRecDepth 8000

def xx (z:Int):List UInt8:=if z<0 then [] else gT z.toNat
def cO (l:List Int):List UInt8:=(l.map xx).flatten
def Bv (z:Int):List UInt8:=fu (z%18446744073709551616).toNat
theorem yA {z:Int} (h:z≤9223372036854775807):(xx z).length≤9:=by
 unfold xx
 split
 · simp
 · exact eY 9 z.toNat (by omega) (by decide)
theorem Fy (l:List Int) (z:Int):cO (l++ [z])=cO l++xx z:=by simp [cO]
theorem l5:∀ {l:List Int},(∀z∈l,z≤9223372036854775807)→(cO l).length≤9*l.length
 | [],_=>by simp [cO]
 | z::l,h=>by
   have h1:=yA (h z (by simp))
   have h2:=l5 (l:=l) fun y hy=>h y (by simp [hy])
   simp only [cO,List.map_cons,List.flatten_cons,List.length_append,List.length_cons] at h2 ⊢
   omega
section
variable {w0 w:World} {X:List Nat} {M:List Res}
end

end Go.Proofs.YtpmhjnhgpplmnaaGreatDoor
end

section
namespace Go.Proofs.YtpmhjnhgpplmnaaGreatDoor
open Go Sx
set_option maxRecDepth 8000

theorem uq (args:Array Value) (w:World):(Builtin.append_ #[185,26] 185 args).run Tryz.prog w=(Builtin.append_ #[26,26] 26 args).run Tryz.prog w:=by
 have u1:=Tryz.underlying185
 have u2:=Tryz.underlying26
 unfold Builtin.append_
 have e1:(#[185,26]:Array TypeId)[0]?=some 185:=rfl
 have e2:(#[185,26]:Array TypeId)[1]?=some 26:=rfl
 have e3:(#[26,26]:Array TypeId)[0]?=some 26:=rfl
 have e4:(#[26,26]:Array TypeId)[1]?=some 26:=rfl
 rw [e1,e2,e3,e4]
 cases h0:args[0]? with
 | none=>rfl
 | some s=>
   cases h1:args[1]? with
   | none=>rfl
   | some x=>simp only [Sem.run_bind,run_underlying u1,run_underlying u2,Result.andThen_ok]

theorem NY (z:Int) (hz:z≤9223372036854775807) (w:World):Calls Tryz.prog 197 #[.int .i64 z] w fun e w'=>∃a n c,e=.returned (.slice a n c)∧Chg [] w w'∧RdB w' a n c (xx z):=by
 by_cases h:z<0
 · refine (Ll z w h).mono ?_
   rintro e w' ⟨rfl,rfl⟩
   exact ⟨_,_,_,rfl,Chg.refl _ _,by rw [xx,if_pos h];exact Nz _⟩
 · obtain ⟨m,rfl⟩:∃m:Nat,z=(m:Int):=⟨z.toNat,by omega⟩
   refine (wW m w (by omega)).mono ?_
   rintro e w' ⟨a,n,c,rfl,hf⟩
   exact ⟨_,_,_,rfl,hf.1,by rw [xx,if_neg h,Int.toNat_natCast];exact hf.rdB⟩
theorem NX (z:Int) (_:z≤9223372036854775807) (w:World):Calls Tryz.prog 196 #[.int .i64 z] w fun e w'=>∃a n c,e=.returned (.slice a n c)∧Chg [] w w'∧RdB w' a n c (Bv z):=by
 refine (Aa z w).mono ?_
 rintro e w' ⟨a,n,c,rfl,hf⟩
 exact ⟨_,_,_,rfl,hf.1,hf.rdB⟩
theorem j8 (z:Int):(Bv z).length=8:=by simp [Bv,fu]
def dr (l:List Int):List UInt8:=(l.map Bv).flatten
theorem Fg (l:List Int) (z:Int):dr (l++ [z])=dr l++Bv z:=by simp [dr]
theorem As:∀ {l:List Int},(∀z∈l,z≤9223372036854775807)→(dr l).length≤9*l.length
 | [],_=>by simp [dr]
 | z::l,h=>by
   have h1:=j8 z
   have h2:=As (l:=l) fun y hy=>h y (by simp [hy])
   simp only [dr,List.map_cons,List.flatten_cons,List.length_append,List.length_cons] at h2 ⊢
   omega

set_option maxHeartbeats 1000000 in
theorem FU {w0 w:World} {X:List Nat} {M:List Res} (zs:List Int) (hz:∀z∈zs,z≤9223372036854775807) (la:Option Addr) (ln lc:Nat) (g:Nat) (a:Option Addr) (n c:Nat) (l:List UInt8) (h:St w0 X w (M++ [.arr g 185 [.slice a n c],.row 5 1 (.slice a n c) n (bv l)])) (hl:∀w',St w0 X w' M→Rd w' la ln lc 1 (iv zs)) (hb:n+9*zs.length≤140737488355000):
   Calls Tryz.prog 99 #[.pointer (some ⟨g,0,none⟩),.slice la ln lc] w fun e w'=>e=.returned (.tuple #[])∧∃a' c',St w0 X w' (M++ [.arr g 185 [.slice a' (n+(cO zs).length) c'],.row 5 1 (.slice a' (n+(cO zs).length) c') (n+(cO zs).length) (bv (l++cO zs))]):=by
 have hln:zs.length=ln:=by have:=(hl w (h.sub (List.sublist_append_left _ _))).len;simpa using this
 apply nH
 refine ⟨fun x w'=>∃(i:Nat) (xa:Option Addr) (xc:Nat),x=(i:Int)∧i≤ln∧St w0 X w' (M++ [.arr g 185 [.slice xa (n+(cO (zs.take i)).length) xc],.row 5 1 (.slice xa (n+(cO (zs.take i)).length) xc) (n+(cO (zs.take i)).length) (bv (l++cO (zs.take i)))]),fun x _=>ln-x.toNat,⟨0,a,c,rfl,by omega,by simpa [cO] using h⟩,?_⟩
 rintro x w1 ⟨i,xa,xc,rfl,hi,hS⟩
 refine ⟨fun hlt=>?_,fun hge=>?_⟩
 · have hi':i<ln:=by simp at hlt;omega
   obtain ⟨z,hzi⟩:∃z,zs[i]?=some z:=⟨_,List.getElem?_eq_getElem (by omega)⟩
   have hcell:(iv zs)[i]?=some (.int .i64 z):=by rw [Jf,hzi];rfl
   obtain ⟨b,o,ha,hc⟩:=(hl w1 (hS.sub (List.sublist_append_left _ _))).cells.at_ hcell
   have hz1:=hz z (List.mem_of_getElem? hzi)
   obtain ⟨N,hN⟩:∃N,n+(cO (zs.take i)).length=N:=⟨_,rfl⟩
   have htl:=l5 (l:=zs.take i) fun y hy=>hz y (List.mem_of_mem_take hy)
   rw [List.length_take,Nat.min_eq_left (by omega)] at htl
   rw [hN] at hS
   let S:World→Prop:=fun w'=>St w0 X w' (M++ [.arr g 185 [.slice xa N xc]])
   have toS:∀ {w' r},St w0 X w' (M++ [.arr g 185 [.slice xa N xc],r])→S w':=fun hw=>Sx.St.sub hw (List.Sublist.append_left (by simp) _)
   have hSd:=hS.drew
   have g0:∀(x y:Res),(M++ [x,y])[M.length]?=some x:=fun x y=>by rw [List.getElem?_append_right (Nat.le_refl _),Nat.sub_self];rfl
   have g1:∀(x y:Res),(M++ [x,y])[M.length+1]?=some y:=fun x y=>by rw [List.getElem?_append_right (by omega),Nat.add_sub_cancel_left];rfl
   refine ⟨b,o,ha,by omega,by omega,_,by rw [Int.toNat_natCast,Nat.mul_one];exact ld1 (EN _) hc,S,toS hSd,_,_,_,fun w' hw=>Sx.St.ldL hw (i:=M.length) (o:=0) List.getElem?_concat_length (Tryz.isAgg185 _) rfl rfl,(NY z hz1 w1.drew).mono ?_⟩
   rintro e w2 ⟨ba,bn,bc,rfl,c2,hr⟩
   have h2:=hSd.same c2
   have hbl:=hr.bB
   have hv:(xx z).length≤9:=yA hz1
   obtain ⟨va,vc,w3,r3,h3⟩:=h2.bJ (i:=M.length+1) (g1 _ _) hr (by omega)
   rw [List.set_append_right _ _ (by omega),Nat.add_sub_cancel_left] at h3
   have h3:St w0 X w3 (M++ [.arr g 185 [.slice xa N xc],.row 5 1 (.slice va (N+bn) vc) (N+bn) (bv (l++cO (zs.take i)++xx z))]):=h3
   obtain ⟨w4,r4,h4⟩:=h3.stL (i:=M.length) (o:=0) (off:=0) (T:=185) (v:=.slice va (N+bn) vc) (g0 _ _) (Tryz.sizeOf185 _) rfl (by simp) rfl
   rw [List.set_append_right _ _ (Nat.le_refl _),Nat.sub_self] at h4
   have htk:cO (zs.take (i+1))=cO (zs.take i)++xx z:=by rw [List.take_add_one,hzi];exact Fy _ _
   refine ⟨_,_,_,rfl,S,fun _ h=>h,toS h2,va,_,vc,w3,by rw [uq];exact r3,S,fun _ h=>h,toS h3,w4,r4,⟨i+1,va,vc,ay hi' (by omega),by omega,?_⟩,aB hi' (by omega)⟩
   have e1:n+(cO (zs.take (i+1))).length=N+bn:=by rw [htk,List.length_append,←hbl];omega
   rw [e1,htk,←List.append_assoc]
   exact h4
 · have hi':i=ln:=by simp at hge;omega
   rw [hi',←hln,List.take_length] at hS
   exact ⟨rfl,xa,xc,hS⟩

set_option maxHeartbeats 1000000 in
theorem FT {w0 w:World} {X:List Nat} {M:List Res} (zs:List Int) (hz:∀z∈zs,z≤9223372036854775807) (la:Option Addr) (ln lc:Nat) (g:Nat) (a:Option Addr) (n c:Nat) (l:List UInt8) (h:St w0 X w (M++ [.arr g 185 [.slice a n c],.row 5 1 (.slice a n c) n (bv l)])) (hl:∀w',St w0 X w' M→Rd w' la ln lc 1 (iv zs)) (hb:n+9*zs.length≤140737488355000):
   Calls Tryz.prog 98 #[.pointer (some ⟨g,0,none⟩),.slice la ln lc] w fun e w'=>e=.returned (.tuple #[])∧∃a' c',St w0 X w' (M++ [.arr g 185 [.slice a' (n+(dr zs).length) c'],.row 5 1 (.slice a' (n+(dr zs).length) c') (n+(dr zs).length) (bv (l++dr zs))]):=by
 have hln:zs.length=ln:=by have:=(hl w (h.sub (List.sublist_append_left _ _))).len;simpa using this
 apply nK
 refine ⟨fun x w'=>∃(i:Nat) (xa:Option Addr) (xc:Nat),x=(i:Int)∧i≤ln∧St w0 X w' (M++ [.arr g 185 [.slice xa (n+(dr (zs.take i)).length) xc],.row 5 1 (.slice xa (n+(dr (zs.take i)).length) xc) (n+(dr (zs.take i)).length) (bv (l++dr (zs.take i)))]),fun x _=>ln-x.toNat,⟨0,a,c,rfl,by omega,by simpa [dr] using h⟩,?_⟩
 rintro x w1 ⟨i,xa,xc,rfl,hi,hS⟩
 refine ⟨fun hlt=>?_,fun hge=>?_⟩
 · have hi':i<ln:=by simp at hlt;omega
   obtain ⟨z,hzi⟩:∃z,zs[i]?=some z:=⟨_,List.getElem?_eq_getElem (by omega)⟩
   have hcell:(iv zs)[i]?=some (.int .i64 z):=by rw [Jf,hzi];rfl
   obtain ⟨b,o,ha,hc⟩:=(hl w1 (hS.sub (List.sublist_append_left _ _))).cells.at_ hcell
   have hz1:=hz z (List.mem_of_getElem? hzi)
   obtain ⟨N,hN⟩:∃N,n+(dr (zs.take i)).length=N:=⟨_,rfl⟩
   have htl:=As (l:=zs.take i) fun y hy=>hz y (List.mem_of_mem_take hy)
   rw [List.length_take,Nat.min_eq_left (by omega)] at htl
   rw [hN] at hS
   let S:World→Prop:=fun w'=>St w0 X w' (M++ [.arr g 185 [.slice xa N xc]])
   have toS:∀ {w' r},St w0 X w' (M++ [.arr g 185 [.slice xa N xc],r])→S w':=fun hw=>Sx.St.sub hw (List.Sublist.append_left (by simp) _)
   have hSd:=hS.drew
   have g0:∀(x y:Res),(M++ [x,y])[M.length]?=some x:=fun x y=>by rw [List.getElem?_append_right (Nat.le_refl _),Nat.sub_self];rfl
   have g1:∀(x y:Res),(M++ [x,y])[M.length+1]?=some y:=fun x y=>by rw [List.getElem?_append_right (by omega),Nat.add_sub_cancel_left];rfl
   refine ⟨b,o,ha,by omega,by omega,_,by rw [Int.toNat_natCast,Nat.mul_one];exact ld1 (EN _) hc,S,toS hSd,_,_,_,fun w' hw=>Sx.St.ldL hw (i:=M.length) (o:=0) List.getElem?_concat_length (Tryz.isAgg185 _) rfl rfl,(NX z hz1 w1.drew).mono ?_⟩
   rintro e w2 ⟨ba,bn,bc,rfl,c2,hr⟩
   have h2:=hSd.same c2
   have hbl:=hr.bB
   have hv:(Bv z).length≤9:=by rw [j8];omega
   obtain ⟨va,vc,w3,r3,h3⟩:=h2.bJ (i:=M.length+1) (g1 _ _) hr (by omega)
   rw [List.set_append_right _ _ (by omega),Nat.add_sub_cancel_left] at h3
   have h3:St w0 X w3 (M++ [.arr g 185 [.slice xa N xc],.row 5 1 (.slice va (N+bn) vc) (N+bn) (bv (l++dr (zs.take i)++Bv z))]):=h3
   obtain ⟨w4,r4,h4⟩:=h3.stL (i:=M.length) (o:=0) (off:=0) (T:=185) (v:=.slice va (N+bn) vc) (g0 _ _) (Tryz.sizeOf185 _) rfl (by simp) rfl
   rw [List.set_append_right _ _ (Nat.le_refl _),Nat.sub_self] at h4
   have htk:dr (zs.take (i+1))=dr (zs.take i)++Bv z:=by rw [List.take_add_one,hzi];exact Fg _ _
   refine ⟨_,_,_,rfl,S,fun _ h=>h,toS h2,va,_,vc,w3,by rw [uq];exact r3,S,fun _ h=>h,toS h3,w4,r4,⟨i+1,va,vc,ay hi' (by omega),by omega,?_⟩,aB hi' (by omega)⟩
   have e1:n+(dr (zs.take (i+1))).length=N+bn:=by rw [htk,List.length_append,←hbl];omega
   rw [e1,htk,←List.append_assoc]
   exact h4
 · have hi':i=ln:=by simp at hge;omega
   rw [hi',←hln,List.take_length] at hS
   exact ⟨rfl,xa,xc,hS⟩

end Go.Proofs.YtpmhjnhgpplmnaaGreatDoor
end

section
namespace Go.Proofs.YtpmhjnhgpplmnaaGreatDoor
open Go Sx
set_option maxRecDepth 8000

def yM (s:iS):Int:=IntKind.wrap .i64 (s.poly:Int)
def ny (s:cU):List UInt8:=gT s.name.length++s.name++(Bv s.time++(cO [s.size,s.chunks]++s.root))
def pkB (p:PkD):List UInt8:=cO [p.num,p.size,p.count]
def mC (C:bH):List UInt8:=dr [C.gen,C.next,yM C.set]++(cO [C.set.win,C.set.min,C.set.max,C.set.bits,(C.snaps.length:Int)]++(C.snaps.flatMap ny++(cO [(C.aq.length:Int)]++C.aq.flatMap pkB)))
def K8:List UInt8:=[99,97,116,97,108,111,103]
def jq (K:List UInt8) (C:bH):List UInt8:=dD K 4 K8 (mC C)

def I63 (z:Int):Prop:= -9223372036854775808≤z∧z≤9223372036854775807
def N63 (z:Int):Prop:=0≤z∧z≤9223372036854775807
theorem Iq (s:iS):I63 (yM s):=by
 unfold yM I63
 rw [Ed]
 split<;>omega
theorem Bi {s:cU} :bM s=true↔yP s.name=true∧(-1099511627776≤s.time∧s.time≤1099511627776)∧0≤s.size∧0≤s.chunks∧s.chunks≤65536:=by
 simp only [bM,Bool.and_eq_true,decide_eq_true_eq]
 constructor
 · rintro ⟨a,b,c,d,e,f⟩;exact ⟨a,⟨b,c⟩,d,e,f⟩
 · rintro ⟨a,⟨b,c⟩,d,e,f⟩;exact ⟨a,b,c,d,e,f⟩
theorem FE {s:List UInt8} (h:yP s=true):1≤s.length∧s.length≤32:=by
 simp only [yP,Bool.and_eq_true,decide_eq_true_eq] at h
 exact h.2
structure gB (C:bH):Prop where
 gen:I63 C.gen
 next:I63 C.next
 poly:C.set.poly<18446744073709551616
 set:N63 C.set.win∧N63 C.set.min∧N63 C.set.max∧N63 C.set.bits
 sn:C.snaps.length≤64
 pn:C.aq.length≤1024
 snaps:∀s∈C.snaps,(1≤s.name.length∧s.name.length≤32)∧I63 s.time∧N63 s.size∧N63 s.chunks
 aq:∀p∈C.aq,N63 p.num∧N63 p.size∧N63 p.count
theorem dQ {z:Int} (h:N63 z):(xx z).length≤9:=yA h.2
theorem pP {s:cU} (h:(1≤s.name.length∧s.name.length≤32)∧I63 s.time∧N63 s.size∧N63 s.chunks):(ny s).length≤100:=by
 have h1:=dQ h.2.2.1
 have h2:=dQ h.2.2.2
 have h3:(gT s.name.length).length=1:=by rw [iP (by omega)];rfl
 simp only [ny,cO,List.map_cons,List.map_nil,List.flatten_cons,List.flatten_nil,List.append_nil,List.length_append,j8,s.rl,h3]
 omega
theorem Bx {p:PkD} (h:N63 p.num∧N63 p.size∧N63 p.count):(pkB p).length≤27:=by
 have h1:=dQ h.1
 have h2:=dQ h.2.1
 have h3:=dQ h.2.2
 simp only [pkB,cO,List.map_cons,List.map_nil,List.flatten_cons,List.flatten_nil,List.append_nil,List.length_append]
 omega
theorem lq {α:Type} {f:α→List UInt8} {k:Nat} :∀ {l:List α},(∀x∈l,(f x).length≤k)→(l.flatMap f).length≤k*l.length
 | [],_=>by simp
 | x::l,h=>by
   have h1:=h x (by simp)
   have h2:=lq (l:=l) fun y hy=>h y (by simp [hy])
   rw [List.flatMap_cons,List.length_append,List.length_cons,Nat.mul_succ]
   omega
theorem Aq {C:bH} (h:gB C):(mC C).length≤40000:=by
 have h1:=lq (f:=ny) (k:=100) fun s hs=>pP (h.snaps s hs)
 have h2:=lq (f:=pkB) (k:=27) fun p hp=>Bx (h.aq p hp)
 have a1:=dQ h.set.1
 have a2:=dQ h.set.2.1
 have a3:=dQ h.set.2.2.1
 have a4:=dQ h.set.2.2.2
 have b1:=h.sn
 have b2:=h.pn
 have a5:=dQ (z:=(C.snaps.length:Int)) ⟨by omega,by omega⟩
 have a6:=dQ (z:=(C.aq.length:Int)) ⟨by omega,by omega⟩
 simp only [mC,dr,cO,List.map_cons,List.map_nil,List.flatten_cons,List.flatten_nil,List.append_nil,List.length_append,j8]
 omega
theorem K0 {s:iS} (h:bO s=true):N63 s.win∧N63 s.min∧N63 s.max∧N63 s.bits:=by
 simp only [bO,gd1,gd2,gd3,gd4,Bool.and_eq_true,decide_eq_true_eq] at h
 have h2:=h.2
 unfold N63
 omega

end Go.Proofs.YtpmhjnhgpplmnaaGreatDoor
end

section
namespace Go.Proofs.YtpmhjnhgpplmnaaGreatDoor
open Go Sx
set_option maxRecDepth 8000

theorem snT:gz Tryz.prog 25 89 36 72 (.agg ([aK [],.int .i64 0,.int .i64 0,.int .i64 0]++bv (List.replicate 32 0)).toArray):=⟨by kernel_rfl,⟨Tryz.t89,by kernel_rfl,by kernel_rfl,by kernel_rfl,by kernel_rfl⟩,rfl,by decide⟩
theorem sA (a:Option Addr) (n c:Nat) (l:List cU) (w:World) (h:RdS w a n c l) (hn:n≤1000000):
   Calls Tryz.prog 109 #[.slice a n c] w fun e w'=>∃a' c',e=.returned (.slice a' n c')∧St w [] w' [.row 89 36 (.slice a' n c') n (l.flatMap eE)]:=by
 apply eV
 refine ⟨fun h0=>?_,fun h0=>?_⟩
 · have ha:a=none:=by simpa using h0
   subst ha
   have hn0:n=0:=by have:=h.rd.nil rfl;have:=h.rd.le;omega
   subst hn0
   have hl:l=[]:=List.eq_nil_of_length_eq_zero (h.num (by decide))
   subst hl
   exact ⟨none,0,rfl,(St.start w).bZ 89 36⟩
 · obtain ⟨ga,w1,r1,k1⟩:=(St.start w).JV snT
   have h1:=h.au k1.chg
   obtain ⟨va,vc,w2,r2,k2,_,_⟩:=k1.append (i:=0) (ty:=25) snT rfl h1.rd (fun v hv=>by
     obtain ⟨s,_,hs⟩:=List.mem_flatMap.1 hv
     exact uL s v hs) (by omega) (by simp only [maxLen];omega)
   rw [Nat.zero_add] at r2 k2
   exact ⟨_,_,_,w1,r1,_,_,_,w2,r2,va,vc,rfl,k2⟩

theorem pqT:gz Tryz.prog 45 91 3 24 (.agg ([.int .i64 0,.int .i64 0,.int .i64 0]:List Value).toArray):=⟨by kernel_rfl,⟨Tryz.t91,by kernel_rfl,by kernel_rfl,by kernel_rfl,by kernel_rfl⟩,rfl,by decide⟩
theorem AW (a:Option Addr) (n c:Nat) (l:List PkD) (w:World) (h:RdE pkC 3 w a n c l) (hn:n≤1000000):
   Calls Tryz.prog 110 #[.slice a n c] w fun e w'=>∃a' c',e=.returned (.slice a' n c')∧St w [] w' [.row 91 3 (.slice a' n c') n (l.flatMap pkC)]:=by
 apply gR
 refine ⟨fun h0=>?_,fun h0=>?_⟩
 · have ha:a=none:=by simpa using h0
   subst ha
   have hn0:n=0:=by have:=h.rd.nil rfl;have:=h.rd.le;omega
   subst hn0
   have hl:l=[]:=List.eq_nil_of_length_eq_zero (h.num (by decide))
   subst hl
   exact ⟨none,0,rfl,(St.start w).bZ 91 3⟩
 · obtain ⟨ga,w1,r1,k1⟩:=(St.start w).JV pqT
   have h1:=h.au k1.chg
   obtain ⟨va,vc,w2,r2,k2,_,_⟩:=k1.append (i:=0) (ty:=45) pqT rfl h1.rd (fun v hv=>by
     obtain ⟨s,_,hs⟩:=List.mem_flatMap.1 hv
     simp [pkC] at hs;rcases hs with rfl | rfl | rfl<;>rfl) (by omega) (by simp only [maxLen];omega)
   rw [Nat.zero_add] at r2 k2
   exact ⟨_,_,_,w1,r1,_,_,_,w2,r2,va,vc,rfl,k2⟩

end Go.Proofs.YtpmhjnhgpplmnaaGreatDoor
end

section
namespace Go.Proofs.YtpmhjnhgpplmnaaGreatDoor
open Go Sx
set_option maxRecDepth 8000

def jK:List Value:=[.int .i64 0,.int .i64 0,.int .u64 0,.int .i64 0,.int .i64 0,.int .i64 0,.int .i64 0,.slice none 0 0,.slice none 0 0]
theorem B4 (w:World):(zeroValue 47).run Tryz.prog w=.ok (.agg jK.toArray) w:=Tryz.zeroValue47 w
theorem kG (w:World):(isAgg 47).run Tryz.prog w=.ok true w:=Tryz.isAgg47 w
theorem fT (w:World):(sizeOf 47).run Tryz.prog w=.ok 9 w:=Tryz.sizeOf47 w
theorem ssS (w:World):(sizeOf 25).run Tryz.prog w=.ok 1 w:=Tryz.sizeOf25 w
theorem psS (w:World):(sizeOf 45).run Tryz.prog w=.ok 1 w:=Tryz.sizeOf45 w
theorem mq (C:bH) (sa:Option Addr) (sn sc:Nat) (pa:Option Addr) (pn pc:Nat):∀v∈bP C sa sn sc pa pn pc,v.oneCell'=true:=fun v hv=>by
 simp only [bP,cZ,List.cons_append,List.nil_append,List.mem_cons,List.not_mem_nil,or_false] at hv
 rcases hv with rfl | rfl | rfl | rfl | rfl | rfl | rfl | rfl | rfl<;>rfl
theorem BD (C:bH) (sa:Option Addr) (sn sc:Nat) (pa:Option Addr) (pn pc:Nat) (w:World) (h:AQ w C sa sn sc pa pn pc) (hs:sn≤1000000) (hp:pn≤1000000):
   Calls Tryz.prog 40 #[.agg (bP C sa sn sc pa pn pc).toArray] w fun e w'=>∃sa' sc' pa' pc',e=.returned (.agg (bP C sa' sn sc' pa' pn pc').toArray)∧St w [] w' [.row 89 36 (.slice sa' sn sc') sn (C.snaps.flatMap eE),.row 91 3 (.slice pa' pn pc') pn (C.aq.flatMap pkC)]:=by
 apply wo
 obtain ⟨g1,w1,r1,k1⟩:=(St.start w).cz (P:=Tryz.prog) 47 (bP C sa sn sc pa pn pc)
 obtain ⟨g2,w2,r2,k2⟩:=k1.aD B4
 let S:World→Prop:=fun w'=>St w [] w' [.arr g1 47 (bP C sa sn sc pa pn pc),.arr g2 47 jK]
 have k2:S w2:=k2
 have k2d:S w2.drew:=Sx.St.drew k2
 refine ⟨g1,w1,r1,g2,w2,r2,S,k2d,_,_,_,fun w' hw=>Sx.St.ldL hw (i:=0) (o:=7) rfl (ssA _) rfl rfl,_,_,_,fun w' hw=>Sx.St.ldL hw (i:=0) (o:=8) rfl (psA _) rfl rfl,(sA sa sn sc C.snaps w2.drew (h.snaps.au (Sx.St.chg k2d)) hs).mono ?_⟩
 rintro e w3 ⟨sa',sc',rfl,k3⟩
 have k3':S w3:=Sx.St.same k2d k3.chg
 have j3:=Sx.St.cq (N:=[]) (by rw [List.append_nil];exact k2d) k3
 refine ⟨_,_,_,rfl,S,fun _ h=>h,k3',(AW pa pn pc C.aq w3 (h.aq.au (Sx.St.chg k3')) hp).mono ?_⟩
 rintro e w4 ⟨pa',pc',rfl,k4⟩
 have k4':S w4:=Sx.St.same k3' k4.chg
 have j4:=Sx.St.cq (N:=[]) (by rw [List.append_nil];exact j3) k4
 have j4:St w [] w4 [.arr g1 47 (bP C sa sn sc pa pn pc),.arr g2 47 jK,.row 89 36 (.slice sa' sn sc') sn (C.snaps.flatMap eE),.row 91 3 (.slice pa' pn pc') pn (C.aq.flatMap pkC)]:=j4
 obtain ⟨w5,r5,j5⟩:=j4.stL (i:=0) (o:=7) (off:=7) (T:=25) (v:=.slice sa' sn sc') rfl (ssS _) rfl (by simp [bP,cZ]) rfl
 obtain ⟨w6,r6,j6⟩:=j5.stL (i:=0) (o:=8) (off:=8) (T:=45) (v:=.slice pa' pn pc') rfl (psS _) rfl (by simp [bP,cZ]) rfl
 have j6:St w [] w6 [.arr g1 47 (bP C sa' sn sc' pa' pn pc'),.arr g2 47 jK,.row 89 36 (.slice sa' sn sc') sn (C.snaps.flatMap eE),.row 91 3 (.slice pa' pn pc') pn (C.aq.flatMap pkC)]:=j6
 obtain ⟨w7,r7,j7⟩:=j6.stA (i:=1) (v:=bP C sa' sn sc' pa' pn pc') rfl (fT _) rfl rfl (mq _ _ _ _ _ _ _)
 have j7:St w [] w7 [.arr g1 47 (bP C sa' sn sc' pa' pn pc'),.arr g2 47 (bP C sa' sn sc' pa' pn pc'),.row 89 36 (.slice sa' sn sc') sn (C.snaps.flatMap eE),.row 91 3 (.slice pa' pn pc') pn (C.aq.flatMap pkC)]:=j7
 refine ⟨_,_,_,rfl,S,fun _ h=>h,k4',w5,r5,w6,r6,_,j6.ldA (i:=0) (l:=bP C sa' sn sc' pa' pn pc') rfl (kG _) (fT _) rfl,w7,r7,_,j7.bQ (i:=1) rfl (kG _) (fT _) rfl,sa',sc',pa',pc',rfl,j7.sub (by simp)⟩

end Go.Proofs.YtpmhjnhgpplmnaaGreatDoor
end

section
namespace Go.Proofs.YtpmhjnhgpplmnaaGreatDoor
open Go Sx
set_option maxRecDepth 8000

theorem byZ (w:World):(zeroValue 185).run Tryz.prog w=.ok (.slice none 0 0) w:=Tryz.zeroValue185 w
theorem byA (w:World):(isAgg 185).run Tryz.prog w=.ok false w:=Tryz.isAgg185 w
theorem byS (w:World):(sizeOf 185).run Tryz.prog w=.ok 1 w:=Tryz.sizeOf185 w
def VB (w0 w:World) (M:List Res) (g:Nat) (l:List UInt8):Prop:=∃a c,St w0 [] w (M++ [.arr g 185 [.slice a l.length c],.row 5 1 (.slice a l.length c) l.length (bv l)])
section
variable {w0 w w':World} {M:List Res} {g:Nat} {l:List UInt8}
theorem VB.same (h:VB w0 w M g l) (hc:Chg [] w w'):VB w0 w' M g l:=by obtain ⟨a,c,hS⟩:=h;exact ⟨a,c,hS.same hc⟩
theorem VB.chg (h:VB w0 w M g l):Chg [] w0 w:=by obtain ⟨a,c,hS⟩:=h;exact hS.chg
theorem VB.rest (h:VB w0 w M g l):St w0 [] w M:=by obtain ⟨a,c,hS⟩:=h;exact hS.sub (List.sublist_append_left _ _)
theorem VB.sub {N:List Res} (h:VB w0 w M g l) (hs:N.Sublist M):VB w0 w N g l:=by obtain ⟨a,c,hS⟩:=h;exact ⟨a,c,hS.sub (hs.append_right _)⟩
theorem VB.perm {a:Option Addr} {c:Nat} {r:Res} (h:St w0 [] w ((M++ [.arr g 185 [.slice a l.length c],.row 5 1 (.slice a l.length c) l.length (bv l)])++ [r])):VB w0 w (M++ [r]) g l:=by
 refine ⟨a,c,h.perm ?_⟩
 rw [List.append_assoc,List.append_assoc]
 exact List.Perm.append_left M (List.perm_append_comm (l₁:=[_,_]) (l₂:=[r]))
theorem VB.lits (h:VB w0 w M g l) (zs:List Int) (hn:zs.length≤1000):∃gl w1,(Instr.buildSlice 29 (iv zs).length (((iv zs).zipIdx 0).map fun p=>(p.2,p.1)).toArray).run Tryz.prog w=.ok (.slice (some ⟨gl,0,none⟩) (iv zs).length (iv zs).length) w1∧VB w0 w1 (M++ [.row 3 1 (.slice (some ⟨gl,0,none⟩) (iv zs).length (iv zs).length) (iv zs).length (iv zs)]) g l:=by
 obtain ⟨a,c,hS⟩:=h
 obtain ⟨gl,w1,r1,h1⟩:=hS.lit OW (iv zs) (Ma zs) (by simp;omega)
 exact ⟨gl,w1,r1,VB.perm h1⟩
theorem VB.Ee (h:VB w0 w M g l) (zs:List Int) (hn:zs.length≤1000) (hz:∀z∈zs,z≤9223372036854775807) (hb:l.length≤1000000000):∃gl w1,(Instr.buildSlice 29 (iv zs).length (((iv zs).zipIdx 0).map fun p=>(p.2,p.1)).toArray).run Tryz.prog w=.ok (.slice (some ⟨gl,0,none⟩) (iv zs).length (iv zs).length) w1∧
   Calls Tryz.prog 98 #[.pointer (some ⟨g,0,none⟩),.slice (some ⟨gl,0,none⟩) (iv zs).length (iv zs).length] w1 fun e w'=>e=.returned (.tuple #[])∧VB w0 w' M g (l++dr zs):=by
 obtain ⟨gl,w1,r1,a,c,hS⟩:=h.lits zs hn
 refine ⟨gl,w1,r1,(FT zs hz _ _ _ g a l.length c l hS (fun w' h=>h.rd (i:=M.length) List.getElem?_concat_length) (by omega)).mono ?_⟩
 rintro e w2 ⟨rfl,a',c',h2⟩
 have h3:VB w0 w2 (M++ [.row 3 1 (.slice (some ⟨gl,0,none⟩) (iv zs).length (iv zs).length) (iv zs).length (iv zs)]) g (l++dr zs):=⟨a',c',by rw [List.length_append];exact h2⟩
 exact ⟨rfl,h3.sub (List.sublist_append_left _ _)⟩
theorem VB.vars (h:VB w0 w M g l) (zs:List Int) (hn:zs.length≤1000) (hz:∀z∈zs,z≤9223372036854775807) (hb:l.length≤1000000000):∃gl w1,(Instr.buildSlice 29 (iv zs).length (((iv zs).zipIdx 0).map fun p=>(p.2,p.1)).toArray).run Tryz.prog w=.ok (.slice (some ⟨gl,0,none⟩) (iv zs).length (iv zs).length) w1∧
   Calls Tryz.prog 99 #[.pointer (some ⟨g,0,none⟩),.slice (some ⟨gl,0,none⟩) (iv zs).length (iv zs).length] w1 fun e w'=>e=.returned (.tuple #[])∧VB w0 w' M g (l++cO zs):=by
 obtain ⟨gl,w1,r1,a,c,hS⟩:=h.lits zs hn
 refine ⟨gl,w1,r1,(FU zs hz _ _ _ g a l.length c l hS (fun w' h=>h.rd (i:=M.length) List.getElem?_concat_length) (by omega)).mono ?_⟩
 rintro e w2 ⟨rfl,a',c',h2⟩
 have h3:VB w0 w2 (M++ [.row 3 1 (.slice (some ⟨gl,0,none⟩) (iv zs).length (iv zs).length) (iv zs).length (iv zs)]) g (l++cO zs):=⟨a',c',by rw [List.length_append];exact h2⟩
 exact ⟨rfl,h3.sub (List.sublist_append_left _ _)⟩
end

theorem Sx.St.N8 {w0 w:World} {X:List Nat} {M:List Res} (h:St w0 X w M) {i g T o n:Nat} {l:List Value} {x:List UInt8} (hi:M[i]?=some (.arr g T l)) (hx:(l.drop o).take n=bv x) (hn:x.length=n):RdB w (some ⟨g,o,none⟩) n n x:=by
 refine ⟨.inr ⟨g,o,rfl,fun j v hj=>?_⟩,by simp [hn],Nat.le_refl _,by simp⟩
 rw [←hx,List.getElem?_take] at hj
 split at hj
 · rw [List.getElem?_drop] at hj
   have:=h.ku hi (o+j) v hj
   rwa [Nat.zero_add] at this
 · cases hj
theorem VB.app {w0 w:World} {M:List Res} {g:Nat} {l x:List UInt8} {va a:Option Addr} {vc n c:Nat} (hS:St w0 [] w (M++ [.arr g 185 [.slice va l.length vc],.row 5 1 (.slice va l.length vc) l.length (bv l)])) (hr:RdB w a n c x) (hb:l.length+n≤140737488355000):
   ∃va' vc' w1 w2,(Builtin.append_ #[185,26] 185 #[.slice va l.length vc,.slice a n c]).run Tryz.prog w=.ok (.slice va' (l.length+n) vc') w1∧St w0 [] w1 (M++ [.arr g 185 [.slice va l.length vc]])∧(Instr.storeAt 185 (.pointer (some ⟨g,0,none⟩)) (.slice va' (l.length+n) vc')).run Tryz.prog w1=.ok () w2∧VB w0 w2 M g (l++x):=by
 have hn:=hr.bB
 have g0:∀(x y:Res),(M++ [x,y])[M.length]?=some x:=fun x y=>by rw [List.getElem?_append_right (Nat.le_refl _),Nat.sub_self];rfl
 have g1:∀(x y:Res),(M++ [x,y])[M.length+1]?=some y:=fun x y=>by rw [List.getElem?_append_right (by omega),Nat.add_sub_cancel_left];rfl
 obtain ⟨va',vc',w1,r1,h1⟩:=hS.bJ (i:=M.length+1) (g1 _ _) hr hb
 rw [List.set_append_right _ _ (by omega),Nat.add_sub_cancel_left] at h1
 have h1:St w0 [] w1 (M++ [.arr g 185 [.slice va l.length vc],.row 5 1 (.slice va' (l.length+n) vc') (l.length+n) (bv (l++x))]):=h1
 obtain ⟨w2,r2,h2⟩:=h1.stL (i:=M.length) (o:=0) (off:=0) (T:=185) (v:=.slice va' (l.length+n) vc') (g0 _ _) (byS _) rfl (by simp) rfl
 rw [List.set_append_right _ _ (Nat.le_refl _),Nat.sub_self] at h2
 refine ⟨va',vc',w1,w2,by rw [uq];exact r1,h1.sub (List.Sublist.append_left (by simp) _),r2,va',vc',?_⟩
 rw [List.length_append,hn]
 exact h2
theorem Ge {M:List Res} {x y r:Res} :((M++ [x,y])++ [r])[M.length+2]?=some r:=by
 rw [List.getElem?_append_right (by simp),List.length_append];simp
theorem GK {M:List Res} {x y r r':Res} :((M++ [x,y])++ [r]).set (M.length+2) r'=(M++ [x,y])++ [r']:=by
 rw [List.set_append_right _ _ (by simp),List.length_append];simp
theorem M9 (w:World):∃g w1 w2,(Instr.buildSlice 26 7 #[(0,.int .u8 99),(1,.int .u8 97),(2,.int .u8 116),(3,.int .u8 97),(4,.int .u8 108),(5,.int .u8 111),(6,.int .u8 103)]).run Tryz.prog w=.ok (.slice (some ⟨g,0,none⟩) 7 7) w1∧(convert 26 26 (.slice (some ⟨g,0,none⟩) 7 7)).run Tryz.prog w1=.ok (.slice (some ⟨g,0,none⟩) 7 7) w2∧Chg [] w w2∧RdB w2 (some ⟨g,0,none⟩) 7 7 K8:=pM K8 (by decide) w
theorem JC (x:List UInt8):b9 [x]=gT x.length++x:=by simp [b9]

set_option maxHeartbeats 4000000 in
theorem yy (K:List UInt8) (hk:K.length=96) (C:bH) (sa:Option Addr) (sn sc:Nat) (pa:Option Addr) (pn pc:Nat) (w:World) (hK:cI w) (h:AQ w C sa sn sc pa pn pc) (ok:aI C=true→gB C):
   Calls Tryz.prog 35 #[.agg (bv K).toArray,.agg (bP C sa sn sc pa pn pc).toArray] w fun e w'=>∃a n c,e=.returned (.tuple #[.slice a n c,bG (if aI C then none else some 28)])∧aY w w' a n c (if aI C then jq K C else []):=by
 obtain ⟨mI,hI⟩:=eI
 have hsn:=h.snaps.num (by decide)
 have hpn:=h.aq.num (by decide)
 apply sR
 obtain ⟨g2,w1,r1,k1⟩:=(St.start w).cz (P:=Tryz.prog) 41 (bv K)
 obtain ⟨g3,w2,r2,k2⟩:=k1.cz (P:=Tryz.prog) 47 (bP C sa sn sc pa pn pc)
 have k2:St w [] w2 [.arr g2 41 (bv K),.arr g3 47 (bP C sa sn sc pa pn pc)]:=k2
 refine ⟨g2,w1,r1,g3,w2,r2,_,k2.ldA (i:=1) (l:=bP C sa sn sc pa pn pc) rfl (kG _) (fT _) rfl,(qz C sa sn sc pa pn pc w2 (h.au k2.chg)).mono ?_⟩
 rintro e w3 ⟨rfl,c3⟩
 have k3:=k2.same c3
 cases hc:aI C with
 | false=>exact ⟨_,rfl,_,az hI (some 28) _ _,fun _=>⟨none,0,0,rfl,k3.chg,rfl,World.ownsRow_nil _ _ _ _⟩,fun h=>by simp at h⟩
 | true=>
   have ok:=ok hc
   have hsn64:sn≤64:=by have:=ok.sn;omega
   have hpn1k:pn≤1024:=by have:=ok.pn;omega
   obtain ⟨g7,w4,r4,k4⟩:=k3.zero byZ
   obtain ⟨M,hM⟩:∃M:List Res,M=[.arr g2 41 (bv K),.arr g3 47 (bP C sa sn sc pa pn pc)]:=⟨_,rfl⟩
   have v4:VB w w4 M g7 []:=⟨none,0,by rw [hM];exact k4.bZ 5 1⟩
   have M0:∀ {w'},St w [] w' M→St w [] w' [.arr g2 41 (bv K),.arr g3 47 (bP C sa sn sc pa pn pc)]:=fun h=>by rw [hM] at h;exact h
   have ldC:∀ {w'} (j:Nat) (T:TypeId) (v:Value),(isAgg T).run Tryz.prog w'=.ok false w'→(bP C sa sn sc pa pn pc)[j]?=some v→St w [] w' M→(Instr.loadAt T (.pointer (some ⟨g3,j,none⟩))).run Tryz.prog w'=.ok v w':=fun j T v hT hv h=>(M0 h).ldL (i:=1) (o:=j) rfl hT rfl hv
   have iA:∀w,(isAgg 3).run Tryz.prog w=.ok false w:=jv
   have uA:∀w,(isAgg 42).run Tryz.prog w=.ok false w:=fun w=>Tryz.isAgg42 w
   have hz3:∀z∈ [C.gen,C.next,yM C.set],z≤9223372036854775807:=fun z hz=>by
     simp only [List.mem_cons,List.not_mem_nil,or_false] at hz
     rcases hz with rfl | rfl | rfl
     · exact ok.gen.2
     · exact ok.next.2
     · exact (Iq _).2
   have n3:(dr [C.gen,C.next,yM C.set]).length=24:=by simp [dr,j8]
   obtain ⟨gl,w5,r5,c5⟩:=v4.Ee [C.gen,C.next,yM C.set] (by simp) hz3 (by simp)
   refine ⟨_,rfl,_,az hI none _ _,fun h=>by simp at h,fun _=>⟨g7,w4,r4,_,ldC 0 _ _ (iA _) rfl v4.rest,_,ldC 1 _ _ (iA _) rfl v4.rest,_,ldC 2 _ _ (uA _) rfl v4.rest,_,_,_,w5,r5,c5.mono ?_⟩⟩
   rintro e w6 ⟨rfl,v6⟩
   rw [List.nil_append] at v6
   have hz5:∀z∈ [C.set.win,C.set.min,C.set.max,C.set.bits,(sn:Int)],z≤9223372036854775807:=fun z hz=>by
     simp only [List.mem_cons,List.not_mem_nil,or_false] at hz
     have:=ok.sn
     rcases hz with rfl | rfl | rfl | rfl | rfl
     · exact ok.set.1.2
     · exact ok.set.2.1.2
     · exact ok.set.2.2.1.2
     · exact ok.set.2.2.2.2
     · omega
   have n5:=l5 hz5
   simp only [List.length_cons,List.length_nil] at n5
   obtain ⟨gl,w7,r7,c7⟩:=v6.vars [C.set.win,C.set.min,C.set.max,C.set.bits,(sn:Int)] (by simp) hz5 (by omega)
   refine ⟨rfl,_,ldC 3 _ _ (iA _) rfl v6.rest,_,ldC 4 _ _ (iA _) rfl v6.rest,_,ldC 5 _ _ (iA _) rfl v6.rest,_,ldC 6 _ _ (iA _) rfl v6.rest,_,_,_,ldC 7 _ _ (ssA _) rfl v6.rest,_,_,_,w7,r7,c7.mono ?_⟩
   rintro e w8 ⟨rfl,v8⟩
   obtain ⟨H,hH⟩:∃H,dr [C.gen,C.next,yM C.set]++cO [C.set.win,C.set.min,C.set.max,C.set.bits,(sn:Int)]=H:=⟨_,rfl⟩
   have hHl:H.length≤69:=by rw [←hH,List.length_append];omega
   rw [hH] at v8
   refine ⟨rfl,_,_,_,ldC 7 _ _ (ssA _) rfl v8.rest,fun x w'=>∃i:Nat,x=(i:Int)∧i≤sn∧VB w w' M g7 (H++(C.snaps.take i).flatMap ny),fun x _=>sn-x.toNat,⟨0,rfl,by omega,by simpa using v8⟩,?_⟩
   rintro x w9 ⟨i,rfl,hi,v9⟩
   refine ⟨fun hlt=>?_,fun hge=>?_⟩
   · have hi':i<sn:=by simp at hlt;omega
     obtain ⟨s,hs⟩:∃s,C.snaps[i]?=some s:=⟨_,List.getElem?_eq_getElem (by omega)⟩
     have hsok:=ok.snaps s (List.mem_of_getElem? hs)
     obtain ⟨b,o,ha,q⟩:=h.snaps.ld (P:=Tryz.prog) (by decide) snA snS hs
     obtain ⟨P,hP⟩:∃P,H++(C.snaps.take i).flatMap ny=P:=⟨_,rfl⟩
     have hPl:P.length≤10000:=by
       have:=lq (f:=ny) (l:=C.snaps.take i) (k:=100) fun s hs=>pP (ok.snaps s (List.mem_of_mem_take hs))
       have h64:=ok.sn
       rw [List.length_take,Nat.min_eq_left (by omega)] at this
       rw [←hP,List.length_append];omega
     rw [hP] at v9
     obtain ⟨va,vc,hS9⟩:=v9
     have c9:=hS9.chg
     obtain ⟨g9,w10,r10,h10⟩:=hS9.aD snZ
     obtain ⟨w11,r11,h11⟩:=h10.stA (i:=M.length+2) (v:=eE s) Ge (snS _) (by simp) (fk s) (uL s)
     rw [GK] at h11
     have v11:=(VB.perm h11).same (Chg.drew [] w11)
     obtain ⟨M',hM'⟩:∃M',M++ [.arr g9 89 (eE s)]=M':=⟨_,rfl⟩
     have e9:M'[M.length]?=some (.arr g9 89 (eE s)):=by rw [←hM'];exact List.getElem?_concat_length
     have Msub:M.Sublist M':=by rw [←hM'];exact List.sublist_append_left _ _
     rw [hM'] at v11
     clear va vc hS9 h10 h11
     obtain ⟨va,vc,hS⟩:=v11
     let S:World→Prop:=fun w'=>St w [] w' (M'++ [.arr g7 185 [.slice va P.length vc]])
     have toS:∀ {w' r},St w [] w' (M'++ [.arr g7 185 [.slice va P.length vc],r])→S w':=fun hw=>Sx.St.sub hw (List.Sublist.append_left (by simp) _)
     have e9':∀ {r},(M'++ [r])[M.length]?=some (.arr g9 89 (eE s)):=fun {r} =>by rw [List.getElem?_append_left (by rw [←hM'];simp)];exact e9
     have hSd:=toS hS
     obtain ⟨gn,cn,w12,r12,c12,q12,_⟩:=wD ⟨s.name.toArray⟩ s.name rfl w11.drew
     obtain ⟨gp,w13,r13,c13,q13,_⟩:=xw bbT [.slice (some ⟨gn,0,none⟩) s.name.length cn] (by simp [Value.oneCell']) (by simp) w12
     refine ⟨b,o,ha,by omega,by omega,_,by rw [Int.toNat_natCast];exact q w9 (h.snaps.au c9),g9,w10,r10,w11,r11,S,hSd,_,_,_,fun w' hw=>Sx.St.ldL hw (i:=M'.length) (o:=0) List.getElem?_concat_length (byA _) rfl rfl,_,fun w' hw=>Sx.St.ldL hw (i:=M.length) (o:=0) e9' (GQ _) rfl rfl,_,_,_,w12,r12,S,fun _ h=>h,Sx.St.same hSd c12,_,_,_,w13,r13,S,fun _ h=>h,Sx.St.same hSd (c12.trans c13),(pF _ 1 1 _ [s.name] w13 q13 (eu (q12.au c13)) (by simp;omega) (by simp)).mono ?_⟩
     rintro e w14 ⟨pa',pn',pc',rfl,f14⟩
     have h14:=hS.same ((c12.trans c13).trans f14.1)
     have hpl:pn'≤40:=by have:=f14.rdB.bB;rw [JC,iP (by omega)] at this;simp at this;omega
     obtain ⟨ua,uc,w15,w16,r15,h15,r16,v16⟩:=VB.app h14 f14.rdB (by omega)
     have hz1:∀z∈ [s.time],z≤9223372036854775807:=fun z hz=>by
       simp only [List.mem_cons,List.not_mem_nil,or_false] at hz
       rw [hz];exact hsok.2.1.2
     have hz2:∀z∈ [s.size,s.chunks],z≤9223372036854775807:=fun z hz=>by
       simp only [List.mem_cons,List.not_mem_nil,or_false] at hz
       rcases hz with rfl | rfl
       · exact hsok.2.2.1.2
       · exact hsok.2.2.2.2
     have l1:(b9 [s.name]).length≤40:=by rw [JC,iP (by omega)];simp;omega
     have l2:(dr [s.time]).length=8:=by simp [dr,j8]
     have l3:=l5 hz2
     simp only [List.length_cons,List.length_nil] at l3
     obtain ⟨gl,w17,r17,c17⟩:=v16.Ee [s.time] (by simp) hz1 (by rw [List.length_append];omega)
     refine ⟨_,_,_,rfl,S,fun _ h=>h,toS h14,ua,_,uc,w15,r15,S,fun _ h=>h,h15,w16,r16,_,v16.rest.ldL (i:=M.length) (o:=1) e9 (jv _) rfl rfl,_,_,_,w17,r17,c17.mono ?_⟩
     rintro e w18 ⟨rfl,v18⟩
     obtain ⟨gl,w19,r19,c19⟩:=v18.vars [s.size,s.chunks] (by simp) hz2 (by rw [List.length_append,List.length_append];omega)
     refine ⟨rfl,_,v18.rest.ldL (i:=M.length) (o:=2) e9 (jv _) rfl rfl,_,v18.rest.ldL (i:=M.length) (o:=3) e9 (jv _) rfl rfl,_,_,_,w19,r19,c19.mono ?_⟩
     rintro e w20 ⟨rfl,v20⟩
     obtain ⟨Q,hQ⟩:∃Q,P++b9 [s.name]++dr [s.time]++cO [s.size,s.chunks]=Q:=⟨_,rfl⟩
     have hQl:Q.length≤11000:=by rw [←hQ,List.length_append,List.length_append,List.length_append];omega
     rw [hQ] at v20
     obtain ⟨ya,yc,hY⟩:=v20.same (Chg.drew [] w20)
     have rdY:RdB w20.drew (some ⟨g9,4,none⟩) 32 32 s.root:=(hY.sub (List.sublist_append_left _ _)).N8 (i:=M.length) (o:=4) (n:=32) e9 (by show List.take 32 (bv s.root)=_;rw [List.take_of_length_le (by simp [s.rl])]) s.rl
     obtain ⟨za,zc,w21,w22,r21,h21,r22,v22⟩:=VB.app hY rdY (by omega)
     refine ⟨rfl,fun w'=>St w [] w' (M'++ [.arr g7 185 [.slice ya Q.length yc]]),hY.sub (List.Sublist.append_left (by simp) _),by omega,by omega,_,_,_,fun w' hw=>Sx.St.ldL hw (i:=M'.length) (o:=0) List.getElem?_concat_length (byA _) rfl rfl,za,_,zc,w21,r21,_,fun _ h=>h,h21,w22,r22,⟨i+1,ay hi' (by omega),by omega,?_⟩,aB hi' (by omega)⟩
     have e:H++(C.snaps.take (i+1)).flatMap ny=Q++s.root:=by
       rw [←hQ,←hP,List.take_add_one,hs,List.flatMap_append]
       simp [ny,JC,dr,List.append_assoc]
     rw [e]
     exact v22.sub Msub
   · have hi':i=sn:=by simp at hge;omega
     rw [hi',←hsn,List.take_length] at v9
     obtain ⟨P,hP⟩:∃P,H++C.snaps.flatMap ny=P:=⟨_,rfl⟩
     have hPl:P.length≤10000:=by
       have:=lq (f:=ny) (l:=C.snaps) (k:=100) fun s hs=>pP (ok.snaps s hs)
       have h64:=ok.sn
       rw [←hP,List.length_append];omega
     rw [hP] at v9
     have hpk:=ok.pn
     have hz1:∀z∈ [(pn:Int)],z≤9223372036854775807:=fun z hz=>by
       simp only [List.mem_cons,List.not_mem_nil,or_false] at hz
       omega
     have l1:=l5 hz1
     simp only [List.length_cons,List.length_nil] at l1
     obtain ⟨gl,w23,r23,c23⟩:=v9.vars [(pn:Int)] (by simp) hz1 (by omega)
     refine ⟨_,_,_,ldC 8 _ _ (psA _) rfl v9.rest,_,_,_,w23,r23,c23.mono ?_⟩
     rintro e w24 ⟨rfl,v24⟩
     obtain ⟨Q,hQ⟩:∃Q,P++cO [(pn:Int)]=Q:=⟨_,rfl⟩
     have hQl:Q.length≤10010:=by rw [←hQ,List.length_append];omega
     rw [hQ] at v24
     refine ⟨rfl,_,_,_,ldC 8 _ _ (psA _) rfl v24.rest,fun x w'=>∃i:Nat,x=(i:Int)∧i≤pn∧VB w w' M g7 (Q++(C.aq.take i).flatMap pkB),fun x _=>pn-x.toNat,⟨0,rfl,by omega,by simpa using v24⟩,?_⟩
     rintro x w25 ⟨i,rfl,hi,v25⟩
     refine ⟨fun hlt=>?_,fun hge=>?_⟩
     · have hi':i<pn:=by simp at hlt;omega
       obtain ⟨p,hp⟩:∃p,C.aq[i]?=some p:=⟨_,List.getElem?_eq_getElem (by omega)⟩
       have hpok:=ok.aq p (List.mem_of_getElem? hp)
       obtain ⟨b,o,ha,q⟩:=h.aq.ld (P:=Tryz.prog) (by decide) pqA pqS hp
       have hTl:(Q++(C.aq.take i).flatMap pkB).length≤40000:=by
         have:=lq (f:=pkB) (l:=C.aq.take i) (k:=27) fun p hp=>Bx (ok.aq p (List.mem_of_mem_take hp))
         rw [List.length_take,Nat.min_eq_left (by omega)] at this
         rw [List.length_append];omega
       have c25:=v25.chg
       obtain ⟨va,vc,hS9⟩:=v25
       obtain ⟨g11,w26,r26,h26⟩:=hS9.aD pqZ
       obtain ⟨w27,r27,h27⟩:=h26.stA (i:=M.length+2) (v:=pkC p) Ge (pqS _) (by simp) rfl (by simp [pkC,Value.oneCell'])
       rw [GK] at h27
       have v27:=VB.perm h27
       have ldP:∀(j:Nat) (v:Value),(pkC p)[j]?=some v→(Instr.loadAt 3 (.pointer (some ⟨g11,j,none⟩))).run Tryz.prog w27=.ok v w27:=fun j v hv=>v27.rest.ldL (i:=M.length) (o:=j) List.getElem?_concat_length (jv _) rfl hv
       have hz3:∀z∈ [p.num,p.size,p.count],z≤9223372036854775807:=fun z hz=>by
         simp only [List.mem_cons,List.not_mem_nil,or_false] at hz
         rcases hz with rfl | rfl | rfl
         · exact hpok.1.2
         · exact hpok.2.1.2
         · exact hpok.2.2.2
       obtain ⟨gl,w28,r28,c28⟩:=v27.vars [p.num,p.size,p.count] (by simp) hz3 (by omega)
       refine ⟨b,o,ha,by omega,by omega,_,by rw [Int.toNat_natCast];exact q w25 (h.aq.au c25),g11,w26,r26,w27,r27,_,ldP 0 _ rfl,_,ldP 1 _ rfl,_,ldP 2 _ rfl,_,_,_,w28,r28,c28.mono ?_⟩
       rintro e w29 ⟨rfl,v29⟩
       refine ⟨rfl,⟨i+1,ay hi' (by omega),by omega,?_⟩,aB hi' (by omega)⟩
       have e:Q++(C.aq.take (i+1)).flatMap pkB=Q++(C.aq.take i).flatMap pkB++cO [p.num,p.size,p.count]:=by
         rw [List.take_add_one,hp,List.flatMap_append]
         simp [pkB,List.append_assoc]
       rw [e]
       exact v29.sub (List.sublist_append_left _ _)
     · have hi':i=pn:=by simp at hge;omega
       rw [hi',←hpn,List.take_length] at v25
       have hall:Q++C.aq.flatMap pkB=mC C:=by
         rw [←hQ,←hP,←hH,mC,hsn,hpn]
         simp [List.append_assoc]
       rw [hall] at v25
       have hpl:=Aq ok
       obtain ⟨gc,w30,w31,r30,r31,c31,q31⟩:=M9 w25
       obtain ⟨va,vc,hS⟩:=v25
       have hS31:=hS.same c31
       have hrow:RdB w31 va (mC C).length vc (mC C):=hS31.rd (i:=M.length+1) (by rw [List.getElem?_append_right (by omega),Nat.add_sub_cancel_left];rfl)
       refine ⟨_,(M0 (hS.sub (List.sublist_append_left _ _))).ldA (i:=0) (l:=bv K) rfl (tJ _) (qg _) (by simp [hk]),_,_,_,w30,r30,_,_,_,w31,r31,_,_,_,hS31.ldL (i:=M.length) (o:=0) (by rw [List.getElem?_append_right (Nat.le_refl _),Nat.sub_self];rfl) (byA _) rfl rfl,(pI K 4 _ 7 7 K8 _ _ _ (mC C) w31 hk (hK.au hS31.chg) q31 hrow (by omega)).mono ?_⟩
       rintro e w32 ⟨ra,rn,rc,rfl,f32⟩
       exact ⟨ra,rn,rc,rfl,ra,rn,rc,rfl,f32.after hS31.chg⟩

end Go.Proofs.YtpmhjnhgpplmnaaGreatDoor
end

section
namespace Go.Proofs.YtpmhjnhgpplmnaaGreatDoor
open Go Sx
set_option maxRecDepth 8000

section
variable {w w1 w':World} {g:Nat} {a0:Option Addr} {n0 c0:Nat} {l:List UInt8} {st:Option (List UInt8)} {N N':List Res}
end

theorem rdA (w:World):(isAgg 201).run Tryz.prog w=.ok true w:=Tryz.isAgg201 w
def NU:iS:=⟨0,0,0,0,0⟩
def E6:bH:=⟨0,0,NU,[],[]⟩
theorem HY:Tryz.prog.built 44=fun parts=>Instr.fill (fun i=>(#[(0,1),(1,1),(2,1),(3,1),(4,1)]:Array (Nat×Nat))[i]?) (cZ NU).toArray parts:=by kernel_rfl
theorem II (s:iS) (w:World):(Instr.build 44 #[(0,.int .u64 (s.poly:Int)),(1,.int .i64 s.win),(2,.int .i64 s.min),(3,.int .i64 s.max),(4,.int .i64 s.bits)]).run Tryz.prog w=.ok (.agg (cZ s).toArray) w:=by
 apply run_build
 rw [HY]
 show Instr.fill _ _ [(0,_),(1,_),(2,_),(3,_),(4,_)]=_
 rw [aC (off:=0) (sz:=1) rfl rfl (by simp [Value.cells,cZ]),aC (off:=1) (sz:=1) rfl rfl (by simp [Value.cells,cZ]),aC (off:=2) (sz:=1) rfl rfl (by simp [Value.cells,cZ]),
   aC (off:=3) (sz:=1) rfl rfl (by simp [Value.cells,cZ]),aC (off:=4) (sz:=1) rfl rfl (by simp [Value.cells,cZ])]
 rfl
end Go.Proofs.YtpmhjnhgpplmnaaGreatDoor
end

section
namespace Go.Proofs.YtpmhjnhgpplmnaaGreatDoor
open Go Go.RowKit Go.Extern.Stop Go.Stop Go.Extern
set_option maxRecDepth 8000

theorem EZ (v:Value) (w:World):(Extern.ReflectliteType.typeOf #[.iface 65 v]).run Tryz.prog w=.ok (.iface 346 (.agg #[.pointer (some ⟨7,65,none⟩)])) w:=by kernel_rfl
def NV:Array Value→Sem Value:=Extern.ReflectliteType.method fun t=>do Extern.Rtype.noPackHeld "Comparable" t;pure (.bool (←typeInfo t).comparable)
theorem yZ (w:World):(NV #[.agg #[.pointer (some ⟨7,65,none⟩)]]).run Tryz.prog w=.ok (.bool true) w:=by kernel_rfl
theorem rE (v:Value) (w:World):(Go.method 614 346 v "Comparable").run Tryz.prog w=.ok (406,v) w:=by kernel_rfl
theorem M5 (v:Value) (xT:TypeId) (w:World):(Instr.typeAssert (.iface 65 v) xT 348 true).run Tryz.prog w=.ok (.tuple #[.nilIface,.bool false]) w:=run_typeAssert_lacksB Tryz.underlying348 (by kernel_rfl) (by kernel_rfl) v xT w
theorem E4 (v:Value) (xT:TypeId) (w:World):(Instr.typeAssert (.iface 65 v) xT 351 true).run Tryz.prog w=.ok (.tuple #[.nilIface,.bool false]) w:=run_typeAssert_lacksB Tryz.underlying351 (by kernel_rfl) (by kernel_rfl) v xT w
theorem Di (v:Value) (xT:TypeId) (w:World):(Instr.typeAssert (.iface 65 v) xT 352 true).run Tryz.prog w=.ok (.tuple #[.nilIface,.bool false]) w:=run_typeAssert_lacksB Tryz.underlying352 (by kernel_rfl) (by kernel_rfl) v xT w
theorem Nr (k n:Int) (w:World):(binOp .eql 58 (.iface 65 (.int .i64 k)) (.iface 65 (.int .i64 n))).run Tryz.prog w=.ok (.bool (k==n)) w:=by
 have hE:=Tryz.underlying65
 have hT:=Tryz.underlying58
 have hI:(typeInfo 65).run Tryz.prog w=.ok Tryz.t65 w:=by
   simp [typeInfo,show Tryz.prog.info? 65=some Tryz.t65 by kernel_rfl]
 have hc:Tryz.t65.comparable=true:=by kernel_rfl
 have h1:∀d k,(Op.equalIn (d+2) 58 (.iface 65 (.int .i64 k)) (.iface 65 (.int .i64 n))).run Tryz.prog w=.ok (k==n) w:=fun d k=>by
   simp [Op.equalIn,run_underlying hT,run_underlying hE,hI,hc]
 simp [binOp,Op.equal,show Op.maxDepth=9998+2 from rfl,h1 9998]

theorem I8 (n:Int) (w:World):
   Calls Tryz.prog 90 #[.nilIface,.iface 65 (.int .i64 n)] w fun e w'=>e=.returned (.bool false)∧w'=w:=by
 have hn:=run_eql_iface_nil_left (P:=Tryz.prog) w 65 (.int .i64 n) Tryz.underlying58
 go_enter Tryz.func90,Tryz.ntmps90
 go_wp2
 go_ret
 exact ⟨rfl,rfl⟩
theorem ND (k n:Int) (w:World):
   Calls Tryz.prog 90 #[.iface 65 (.int .i64 k),.iface 65 (.int .i64 n)] w fun e w'=>e=.returned (.bool (k==n))∧w'=w:=by
 have h8:= @run_callFunc_extern Tryz.prog 184 _ Extern.ReflectliteType.typeOf Tryz.func184 (by kernel_rfl) (by kernel_rfl) (by kernel_rfl) (by kernel_rfl)
 have h32:= @run_callFunc_extern Tryz.prog 406 _ NV Tryz.func406 (by kernel_rfl) (by kernel_rfl) (by kernel_rfl) (by kernel_rfl)
 have tT:=EZ
 have cT:=yZ
 have mR:=rE
 have nE:=M5
 have uE:=E4
 have vE:=Di
 have heq:=Nr k n w
 cases hb:(k==n) with
 | true=>
   rw [hb] at heq
   go_enter Tryz.func90,Tryz.ntmps90
   go_wp2
   refine wp_loop_rounds 1 ?_
   rw [rounds_succ]
   go_wp2
   go_ret
   exact ⟨rfl,rfl⟩
 | false=>
   rw [hb] at heq
   go_enter Tryz.func90,Tryz.ntmps90
   go_wp2
   refine wp_loop_rounds 1 ?_
   rw [rounds_succ]
   go_wp2
   go_ret
   exact ⟨rfl,rfl⟩

open Sx in
theorem kF (o:Option Int) (n:Int) (w:World):Calls Tryz.prog 90 #[bG o,.iface 65 (.int .i64 n)] w fun e w'=>e=.returned (.bool (decide (o=some n)))∧w'=w:=by
 cases o with
 | none=>exact I8 n w
 | some k=>
   refine (ND k n w).mono ?_
   rintro e w' ⟨rfl,rfl⟩
   have:decide (some k=some n)=(k==n):=by rw [Bool.eq_iff_iff];simp
   rw [this]
   exact ⟨rfl,rfl⟩

end Go.Proofs.YtpmhjnhgpplmnaaGreatDoor
end

section
namespace Go.Proofs.YtpmhjnhgpplmnaaGreatDoor
open Go Sx
set_option maxRecDepth 8000

structure FV where
 name:Nm
 a:Option Addr
 c:Nat
 data:List UInt8
def FV.cells (v:FV):List Value:=[aK v.name,.slice v.a v.data.length v.c]
def FV.row (v:FV):Res:=.row 5 1 (.slice v.a v.data.length v.c) v.data.length (bv v.data)
def FV.t (v:FV):Nm×List UInt8:=(v.name,v.data)
section
variable {w0 w w':World} {X:List Nat} {N N':List Res} {gd:Nat} {ps:List Nat} {m:ah}

end

end Go.Proofs.YtpmhjnhgpplmnaaGreatDoor
end

section
namespace Go.Proofs.YtpmhjnhgpplmnaaGreatDoor
open Go Sx
set_option maxRecDepth 8000

theorem NP (w:World):cH w [] []:=⟨rfl,by simp⟩
theorem ER {w:World} {vs:List Value} {ls:List (List UInt8)} {a:Option Addr} {n c:Nat} {l:List UInt8} (h:RdB w a n c l) (h2:cH w vs ls):cH w (.slice a n c::vs) (l::ls):=by
 refine ⟨by simp [h2.len],fun i hi=>?_⟩
 cases i with
 | zero=>exact ⟨a,n,c,rfl,h⟩
 | succ i=>exact h2.rd i (by simpa using hi)

section
variable {w0 w w':World} {X:List Nat} {N N' T:List Res} {gd:Nat} {ps:List Nat} {m:ah}

theorem mU (h:aj w0 X w gd ps m N):Calls Tryz.prog 80 #[.pointer (some ⟨gd,0,none⟩)] w fun e w'=>∃a c,e=.returned (.slice a (cg m).length c)∧St w [] w' [.row 9 1 (.slice a (cg m).length c) (cg m).length ((cg m).map aK)]:=by
 obtain ⟨p,hps,hp,hS⟩:=h
 exact Ie hp.mem hS
end

end Go.Proofs.YtpmhjnhgpplmnaaGreatDoor
end

section
namespace Go.Proofs.YtpmhjnhgpplmnaaGreatDoor
open Go Sx
set_option maxRecDepth 8000

def aR (r:ah×Option Int) (f:ah→ah×Option Int):ah×Option Int:=match r.2 with
 | some e=>(r.1,some e)
 | none=>f r.1
def tN:Nm:=[116]
def yF (m:ah) (n:Nm):Bool:=(cg m).contains n
def Af (e:Int):Int:=if e=1 then 1 else 22
def jX (n:Nm) (e:Int) (m:ah):ah×Option Int:=match (aM m n).2 with
 | some x=>((aM m n).1,some (Af x))
 | none=>match (aL (aM m n).1).2 with
   | some x=>((aL (aM m n).1).1,some (Af x))
   | none=>((aL (aM m n).1).1,some e)
def Cs (n:Nm) (m:ah):ah×Option Int:=match (aL m).2 with
 | none=>((aL m).1,none)
 | some e=>if e=1 then ((aL m).1,some 1) else jX n e (aL m).1
def vG (b:List UInt8) (n:Nm) (i:Nat) (m:ah):ah×Option Int:=match i with
 | 0=>aN m tN
 | 1=>aP m tN [b]
 | 2=>cW m tN
 | 3=>aL m
 | _=>dZ m tN n
def wu (b:List UInt8) (n:Nm):Nat→ah→ah×Option Int
 | 0,m=>Cs n m
 | k+1,m=>aR (vG b n (4-k) m) (wu b n k)
def aZ (n:Nm) (m:ah):ah×Option Int:=if yF m n then aM m n else (m,none)
noncomputable def aX (K:List UInt8) (C:bH) (m:ah):ah×Option Int:=
 if aI C then aR (aZ tN m) (wu (jq K C) (aW 99 C.gen) 5) else (m,some 28)

def Cnt (k:Nat) (m m':ah):Prop:=m'.steps≤m.steps+k∧m'.chs.length≤m.chs.length+k
theorem Cnt.refl (m:ah):Cnt 0 m m:=⟨Nat.le_refl _,Nat.le_refl _⟩
theorem Cnt.trans {j k:Nat} {a b c:ah} (h:Cnt j a b) (h2:Cnt k b c):Cnt (j+k) a c:=⟨by have:=h.1;have:=h2.1;omega,by have:=h.2;have:=h2.2;omega⟩
theorem Cnt.mono {j k:Nat} {a b:ah} (h:Cnt j a b) (hk:j≤k):Cnt k a b:=⟨by have:=h.1;omega,by have:=h.2;omega⟩
theorem JS (m:ah):Cnt 1 m (bu m).1:=by
 unfold bu Cnt
 split
 · exact ⟨Nat.le_succ _,Nat.le_succ _⟩
 · split<;>exact ⟨Nat.le_refl _,Nat.le_succ _⟩
theorem jT (m:ah) {f:ah→ah} (hf:∀m,(f m).steps=m.steps∧(f m).chs.length≤m.chs.length+1):Cnt 1 m (aT m f).1:=by
 have h:=JS m
 have hc:(bu m).1.chs=m.chs:=by
   unfold bu
   split
   · rfl
   · split<;>rfl
 unfold aT
 split
 · exact h
 · have:=hf (bu m).1
   refine ⟨by have:=h.1;show (f (bu m).1).steps≤_;omega,?_⟩
   rw [hc] at this
   exact this.2
theorem yK (m:ah) (c:ChM):(iO m c).steps=m.steps∧(iO m c).chs.length≤m.chs.length+1:=⟨rfl,by simp [iO]⟩
theorem qT (m:ah) (n:Nm):Cnt 1 m (aN m n).1:=by
 unfold aN
 split
 · exact (Cnt.refl m).mono (by omega)
 · split
   · exact (Cnt.refl m).mono (by omega)
   · split
     · exact (Cnt.refl m).mono (by omega)
     · exact jT m fun m=>yK m _
theorem qF (m:ah) (n:Nm) (ps:List (List UInt8)):Cnt 1 m (aP m n ps).1:=by
 unfold aP
 split
 · exact (Cnt.refl m).mono (by omega)
 · split
   · exact jT m fun m=>⟨rfl,Nat.le_succ _⟩
   · exact (Cnt.refl m).mono (by omega)
theorem xA (m:ah) (n:Nm):Cnt 1 m (cW m n).1:=by
 unfold cW
 split
 · exact (Cnt.refl m).mono (by omega)
 · exact jT m fun m=>⟨rfl,Nat.le_succ _⟩
theorem kZ (m:ah):Cnt 1 m (aL m).1:=by
 unfold aL
 split
 · exact (Cnt.refl m).mono (by omega)
 · exact jT m fun m=>⟨rfl,by simp [fN]⟩
theorem Fu (m:ah) (a b:Nm):Cnt 1 m (dZ m a b).1:=by
 unfold dZ
 split
 · exact (Cnt.refl m).mono (by omega)
 · split
   · exact (Cnt.refl m).mono (by omega)
   · exact jT m fun m=>yK m _
theorem rz (m:ah) (n:Nm):Cnt 1 m (aM m n).1:=by
 unfold aM
 split
 · exact (Cnt.refl m).mono (by omega)
 · exact jT m fun m=>yK m _
theorem Am (b:List UInt8) (n:Nm) (i:Nat) (m:ah):Cnt 1 m (vG b n i m).1:=by
 unfold vG
 split
 · exact qT _ _
 · exact qF _ _ _
 · exact xA _ _
 · exact kZ _
 · exact Fu _ _ _
theorem me (n:Nm) (m:ah):Cnt 1 m (aZ n m).1:=by
 unfold aZ
 split
 · exact rz _ _
 · exact (Cnt.refl m).mono (by omega)

theorem Cg (a:Option Addr) (n c:Nat) (ns:List Nm) (x:Nm) (w:World) (hr:Rd w a n c 1 (ns.map aK)) (hb:n≤4611686018427387904):
   Calls Tryz.prog 183 #[.slice a n c,aK x] w fun e w'=>∃t:Int,e=.returned (.int .i64 t)∧decide (t≥0)=ns.contains x∧w'=w:=by
 have hln:ns.length=n:=by have:=hr.len;simpa using this
 apply jd
 refine ⟨fun y w'=>∃i:Nat,y=(i:Int)∧i≤n∧(ns.take i).contains x=false∧w'=w,fun y _=>n-y.toNat,⟨0,rfl,by omega,by simp,rfl⟩,?_⟩
 rintro y w1 ⟨i,rfl,hi,hno,rfl⟩
 refine ⟨fun h=>?_,fun h=>?_⟩
 · have hi':i<n:=by simp at h;omega
   obtain ⟨s,hs⟩:∃s,ns[i]?=some s:=⟨_,List.getElem?_eq_getElem (by omega)⟩
   obtain ⟨b,o,ha,hc⟩:=hr.cells.at_ (i:=i) (v:=aK s) (by rw [List.getElem?_map,hs];rfl)
   refine ⟨b,o,ha,by omega,by omega,_,by rw [Int.toNat_natCast,Nat.mul_one];exact ld1 (Dz _) hc,fun h=>?_,fun h=>⟨⟨i+1,ay hi' hb,by omega,?_,rfl⟩,aB hi' hb⟩⟩
   · rw [ByteArray.toList_eq,ByteArray.toList_eq] at h
     have:x=s:=by simpa using h
     refine ⟨_,rfl,?_,rfl⟩
     have hm:ns.contains x=true:=by rw [List.contains_iff_mem,this];exact List.mem_of_getElem? hs
     rw [hm];simp
   · rw [ByteArray.toList_eq,ByteArray.toList_eq] at h
     have hne:x≠s:=by simpa using h
     rw [List.take_add_one,hs]
     rw [←Bool.not_eq_true,List.contains_iff_mem] at hno ⊢
     simp only [Option.toList,List.mem_append,List.mem_singleton,not_or]
     exact ⟨hno,hne⟩
 · have hi':i=n:=by simp at h;omega
   rw [hi',←hln,List.take_length] at hno
   exact ⟨_,rfl,by rw [hno];simp,rfl⟩
theorem nV (a:Option Addr) (n c:Nat) (ns:List Nm) (x:Nm) (w:World) (hr:Rd w a n c 1 (ns.map aK)) (hb:n≤4611686018427387904):
   Calls Tryz.prog 88 #[.slice a n c,aK x] w fun e w'=>e=.returned (.bool (ns.contains x))∧w'=w:=by
 apply gX
 refine (Cg a n c ns x w hr hb).mono ?_
 rintro e w' ⟨t,rfl,h1,rfl⟩
 exact ⟨t,rfl,by rw [h1],rfl⟩

end Go.Proofs.YtpmhjnhgpplmnaaGreatDoor
end

section
namespace Go.Proofs.YtpmhjnhgpplmnaaGreatDoor
open Go Sx
set_option maxRecDepth 8000

def pV (g:Nat):Value:=.pointer (some ⟨g,0,none⟩)
def gH (f:Nat) (pre cb:List Value):Value:=.func (.func f) pre.toArray cb.toArray
theorem HE (g3 g4 gd:Nat) (w:World):(Instr.build 355 #[(0,gH 262 [] [pV g3,pV g4]),(1,gH 84 [pV gd] [])]).run Tryz.prog w=.ok (.agg #[gH 262 [] [pV g3,pV g4],gH 84 [pV gd] []]) w:=by kernel_rfl
theorem Lc (a b:Value) (w:World):(Instr.index 355 (.agg #[a,b]) (.int .i64 0)).run Tryz.prog w=.ok a w:=by kernel_rfl
theorem LD (a b:Value) (w:World):(Instr.index 355 (.agg #[a,b]) (.int .i64 1)).run Tryz.prog w=.ok b w:=by kernel_rfl
theorem HF (g3 g7 gd g10:Nat) (w:World):(Instr.build 279 #[(0,gH 186 [] [pV g3]),(1,gH 187 [] [pV g3,pV g7]),(2,gH 188 [] [pV g3]),(3,gH 84 [pV gd] []),(4,gH 189 [] [pV g3,pV g10])]).run Tryz.prog w=
   .ok (.agg #[gH 186 [] [pV g3],gH 187 [] [pV g3,pV g7],gH 188 [] [pV g3],gH 84 [pV gd] [],gH 189 [] [pV g3,pV g10]]) w:=by kernel_rfl
theorem MH (a b c d e:Value) (w:World):(Instr.index 279 (.agg #[a,b,c,d,e]) (.int .i64 0)).run Tryz.prog w=.ok a w∧(Instr.index 279 (.agg #[a,b,c,d,e]) (.int .i64 1)).run Tryz.prog w=.ok b w∧(Instr.index 279 (.agg #[a,b,c,d,e]) (.int .i64 2)).run Tryz.prog w=.ok c w∧
   (Instr.index 279 (.agg #[a,b,c,d,e]) (.int .i64 3)).run Tryz.prog w=.ok d w∧(Instr.index 279 (.agg #[a,b,c,d,e]) (.int .i64 4)).run Tryz.prog w=.ok e w:=⟨by kernel_rfl,by kernel_rfl,by kernel_rfl,by kernel_rfl,by kernel_rfl⟩
theorem pdA (w:World):(isAgg 51).run Tryz.prog w=.ok false w:=Tryz.isAgg51 w

section
variable {w0 w w':World} {X:List Nat} {N T:List Res} {gd:Nat} {ps:List Nat} {m:ah}
theorem aj.top (h:aj w0 X w gd ps m (N++T)):St w0 X w T:=h.rest.sub (List.sublist_append_right _ _)
theorem aj.cut (h:aj w0 X w gd ps m (N++T)):aj w0 X w gd ps m N:=h.tQ (List.sublist_append_left _ _)

def B63 (k:Nat) (m:ah):Prop:=m.steps+k≤4611686018427387000∧m.chs.length+k≤999999000
theorem B63.of {j k:Nat} {m m':ah} (h:B63 (j+k) m) (hc:Cnt j m m'):B63 k m':=⟨by have:=h.1;have:=hc.1;omega,by have:=h.2;have:=hc.2;omega⟩
theorem B63.s {k:Nat} (h:B63 k m):m.steps<4611686018427387904:=by have:=h.1;omega
theorem B63.c {k:Nat} (h:B63 k m):m.chs.length<1000000000:=by have:=h.2;omega

theorem ldQ {T:List Res} {i g:Nat} {ty:TypeId} {v:Value} (h:St w0 X w T) (hi:T[i]?=some (.arr g ty [v])) (ha:(isAgg ty).run Tryz.prog w=.ok false w):(Instr.loadAt ty (pV g)).run Tryz.prog w=.ok v w:=h.ldL (i:=i) (o:=0) hi ha rfl rfl

theorem Ip (n:Nm) (e0:Int) (h:aj w0 X w gd ps m N) (hb:B63 2 m):
   Calls Tryz.prog 191 #[pV gd,aK n,bG (some e0)] w fun e w'=>e=.returned (bG (jX n e0 m).2)∧∃ps',aj w0 X w' gd ps' (jX n e0 m).1 N:=by
 obtain ⟨mI,hI⟩:=eI
 apply we
 obtain ⟨g3,w1,r1,k1⟩:=(St.start w).box (P:=Tryz.prog) 51 (pV gd)
 obtain ⟨g4,w2,r2,k2⟩:=k1.box (P:=Tryz.prog) 9 (aK n)
 have k2:St w [] w2 [.arr g3 51 [pV gd],.arr g4 9 [aK n]]:=k2
 have h2:=h.cR k2
 refine ⟨g3,w1,r1,g4,w2,r2,gH 262 [] [pV g3,pV g4],w2,rfl,_,_,ldQ (i:=0) k2 rfl (pdA _),gH 84 [pV gd] [],w2,rfl,_,HE g3 g4 gd w2,fun x w'=>(x=0∧∃ps',aj w0 X w' gd ps' m (N++ [.arr g3 51 [pV gd],.arr g4 9 [aK n]]))∨(x=1∧(aM m n).2=none∧∃ps',aj w0 X w' gd ps' (aM m n).1 (N++ [.arr g3 51 [pV gd],.arr g4 9 [aK n]]))∨(x=2∧jX n e0 m=((aL (aM m n).1).1,some e0)∧∃ps',aj w0 X w' gd ps' (aL (aM m n).1).1 (N++ [.arr g3 51 [pV gd],.arr g4 9 [aK n]])),fun x _=>(2-x).toNat,.inl ⟨rfl,ps,h2⟩,?_⟩
 rintro x w5 hx
 have hu1:∀y,(aM m n).2=some y→jX n e0 m=((aM m n).1,some (Af y)):=fun y hy=>by unfold jX;rw [hy]
 have hu2:∀y,(aM m n).2=none→(aL (aM m n).1).2=some y→jX n e0 m=((aL (aM m n).1).1,some (Af y)):=fun y hn hy=>by unfold jX;rw [hn];simp only;rw [hy]
 have hu3:(aM m n).2=none→(aL (aM m n).1).2=none→jX n e0 m=((aL (aM m n).1).1,some e0):=fun hn hy=>by unfold jX;rw [hn];simp only;rw [hy]
 refine ⟨fun hlt=>?_,fun hge=>?_⟩
 · rcases hx with ⟨rfl,ps',h5⟩ | ⟨rfl,hrm,ps',h5⟩ | ⟨rfl,_⟩
   · refine ⟨_,Lc _ _ w5,262,[],[pV g3,pV g4],rfl,by kernel_rfl,?_⟩
     show Calls _ _ #[pV g3,pV g4] _ _
     apply rX
     refine ⟨_,_,ldQ (i:=0) h5.top rfl (pdA _),_,ldQ (i:=1) h5.top rfl (Dz _),(kY n h5 hb.s hb.c).mono ?_⟩
     rintro e w6 ⟨rfl,h6⟩
     refine ⟨_,rfl,_,rfl,(kF (aM m n).2 1 w6).mono ?_⟩
     rintro e w7 ⟨rfl,rfl⟩
     refine ⟨_,rfl,fun h=>?_,fun h=>⟨_,az hI _ _ _,fun h2=>?_,fun h2=>⟨.inr (.inl ⟨rfl,by simpa using h2,ps',h6⟩),by show (2-IntKind.wrap .i64 (0+1)).toNat<((2:Int)-0).toNat;decide⟩⟩⟩
     · have h:(aM m n).2=some 1:=by simpa using h
       rw [hu1 1 h,h]
       exact ⟨rfl,ps',h6.cut⟩
     · obtain ⟨y,hy⟩:=Option.isSome_iff_exists.1 h2
       have hne:¬y=1:=by rw [hy] at h;simpa using h
       rw [hu1 y hy,Af,if_neg hne]
       exact ⟨rfl,ps',h6.cut⟩
   · have hb2:B63 1 (aM m n).1:=hb.of (j:=1) (rz m n)
     refine ⟨_,LD _ _ w5,84,[pV gd],[],rfl,by kernel_rfl,?_⟩
     show Calls _ _ #[pV gd] _ _
     refine (mJ h5 hb2.s).mono ?_
     rintro e w6 ⟨rfl,h6⟩
     refine ⟨_,rfl,(kF (aL (aM m n).1).2 1 w6).mono ?_⟩
     rintro e w7 ⟨rfl,rfl⟩
     refine ⟨_,rfl,fun h=>?_,fun h=>⟨_,az hI _ _ _,fun h2=>?_,fun h2=>⟨.inr (.inr ⟨rfl,hu3 hrm (by simpa using h2),ps',h6⟩),by show (2-IntKind.wrap .i64 (1+1)).toNat<((2:Int)-1).toNat;decide⟩⟩⟩
     · have h:(aL (aM m n).1).2=some 1:=by simpa using h
       rw [hu2 1 hrm h,h]
       exact ⟨rfl,ps',h6.cut⟩
     · obtain ⟨y,hy⟩:=Option.isSome_iff_exists.1 h2
       have hne:¬y=1:=by rw [hy] at h;simpa using h
       rw [hu2 y hrm hy,Af,if_neg hne]
       exact ⟨rfl,ps',h6.cut⟩
   · simp at hlt
 · rcases hx with ⟨rfl,_⟩ | ⟨rfl,_⟩ | ⟨rfl,hu,ps',h5⟩
   · simp at hge
   · simp at hge
   · rw [hu]
     exact ⟨rfl,ps',h5.cut⟩

theorem Ck {C:bH} (h:aI C=true):Au C.gen=true:=by
 simp only [aI,jA,Bool.and_eq_true,decide_eq_true_eq] at h
 rw [jP]
 exact ⟨h.1.1.1,h.1.1.2.1⟩

set_option maxHeartbeats 4000000 in
theorem u9 (K:List UInt8) (hk:K.length=96) (C:bH) (sa:Option Addr) (sn sc:Nat) (pa:Option Addr) (pn pc:Nat) (h:aj w0 [] w gd ps m N) (hK:cI w0) (hT:iE w0) (hr:AQ w C sa sn sc pa pn pc) (ok:aI C=true→gB C) (hb:B63 20 m):
   Calls Tryz.prog 92 #[pV gd,.agg (bv K).toArray,.agg (bP C sa sn sc pa pn pc).toArray] w fun e w'=>e=.returned (bG (aX K C m).2)∧∃ps',aj w0 [] w' gd ps' (aX K C m).1 N:=by
 obtain ⟨mI,hI⟩:=eI
 apply rT
 obtain ⟨g3,w1,r1,k1⟩:=(St.start w).box (P:=Tryz.prog) 51 (pV gd)
 obtain ⟨g4,w2,r2,k2⟩:=k1.cz (P:=Tryz.prog) 41 (bv K)
 obtain ⟨g5,w3,r3,k3⟩:=k2.cz (P:=Tryz.prog) 47 (bP C sa sn sc pa pn pc)
 have k3:St w [] w3 [.arr g3 51 [pV gd],.arr g4 41 (bv K),.arr g5 47 (bP C sa sn sc pa pn pc)]:=k3
 refine ⟨g3,w1,r1,g4,w2,r2,g5,w3,r3,_,k3.ldA (i:=1) (l:=bv K) rfl (tJ _) (qg _) (by simp [hk]),_,k3.ldA (i:=2) (l:=bP C sa sn sc pa pn pc) rfl (kG _) (fT _) rfl,(yy K hk C sa sn sc pa pn pc w3 (hK.au (h.chg.trans k3.chg)) (hr.au k3.chg) ok).mono ?_⟩
 rintro e w4 ⟨ea,en,ec,rfl,f4⟩
 have k4:=f4.add k3
 obtain ⟨g7,w5,r5,k5⟩:=k4.zero (z:=.slice none 0 0) (fun w=>Tryz.zeroValue26 w)
 have k5:St w [] w5 [.arr g3 51 [pV gd],.arr g4 41 (bv K),.arr g5 47 (bP C sa sn sc pa pn pc),.row 5 1 (.slice ea en ec) en (bv (if aI C then jq K C else [])),.arr g7 26 [.slice none 0 0]]:=k5
 obtain ⟨w6,r6,k6⟩:=k5.stL (i:=4) (o:=0) (off:=0) (T:=26) (v:=.slice ea en ec) rfl (bsS _) rfl (by simp) rfl
 have h6:=h.cR k6
 refine ⟨_,_,_,_,rfl,g7,w5,r5,w6,r6,_,az hI _ _ _,fun hbad=>?_,fun hgood=>?_⟩
 · have hc:aI C=false:=by
     cases hc:aI C with
     | false=>rfl
     | true=>rw [hc] at hbad;simp at hbad
   have e1:aX K C m=(m,some 28):=by unfold aX;rw [hc];rfl
   rw [e1,hc]
   exact ⟨rfl,ps,h6.cut⟩
 have hc:aI C=true:=by
   cases hc:aI C with
   | true=>rfl
   | false=>rw [hc] at hgood;simp at hgood
 rw [hc] at h6
 obtain ⟨b,hbb⟩:∃b,jq K C=b:=⟨_,rfl⟩
 obtain ⟨nm,hnm⟩:∃nm,aW 99 C.gen=nm:=⟨_,rfl⟩
 have e1:aX K C m=aR (aZ tN m) (wu b nm 5):=by unfold aX;rw [hc,hbb,hnm];rfl
 obtain ⟨T1,hT1⟩:∃T1:List Res,[.arr g3 51 [pV gd],.arr g4 41 (bv K),.arr g5 47 (bP C sa sn sc pa pn pc),.row 5 1 (.slice ea en ec) en (bv b),.arr g7 26 [.slice ea en ec]]=T1:=⟨_,rfl⟩
 have h6:aj w0 [] w6 gd ps m (N++T1):=by rw [←hT1,←hbb];exact h6
 have ld3:∀ {w':World} {T},St w0 [] w' (T1++T)→(Instr.loadAt 51 (pV g3)).run Tryz.prog w'=.ok (pV gd) w':=fun h=>ldQ (i:=0) h (by rw [←hT1];rfl) (pdA _)
 have ld3':∀ {w':World},St w0 [] w' T1→(Instr.loadAt 51 (pV g3)).run Tryz.prog w'=.ok (pV gd) w':=fun h=>ld3 (T:=[]) (by rw [List.append_nil];exact h)
 refine ⟨_,_,ld3' h6.top,(mU h6).mono ?_⟩
 rintro e w7 ⟨la,lc,rfl,k7⟩
 have h7:=h6.cR k7
 have hnl:(cg m).length≤4096:=by have:=h.wf.dV.len;simpa [cg] using this
 refine ⟨_,_,_,rfl,(nV la _ lc (cg m) tN w7 (h7.top.rd (i:=0) rfl) (by omega)).mono ?_⟩
 rintro e w8 ⟨rfl,rfl⟩
 have h7:=h7.cut
 refine ⟨_,rfl,fun w'=>(aZ tN m).2=none∧∃ps',aj w0 [] w' gd ps' (aZ tN m).1 (N++T1),⟨fun hin=>?_,fun hout=>?_⟩,?_⟩
 · have hin:yF m tN=true:=hin
   have ea:aZ tN m=aM m tN:=by unfold aZ;rw [hin];rfl
   refine ⟨_,_,ld3' h7.top,(kY tN h7 hb.s hb.c).mono ?_⟩
   rintro e w9 ⟨rfl,h9⟩
   refine ⟨_,rfl,_,az hI _ _ _,fun hbad=>?_,fun hok=>⟨by rw [ea];simpa using hok,ps,by rw [ea];exact h9⟩⟩
   obtain ⟨y,hy⟩:=Option.isSome_iff_exists.1 hbad
   have e2:aX K C m=((aM m tN).1,some y):=by rw [e1,aR,ea,hy]
   rw [e2,hy]
   exact ⟨rfl,ps,h9.cut⟩
 · have hout:yF m tN=false:=hout
   have ea:aZ tN m=(m,none):=by unfold aZ;rw [hout];rfl
   exact ⟨by rw [ea],ps,by rw [ea];exact h7⟩
 rintro w10 ⟨ha,ps1,h10⟩
 obtain ⟨m1,hm1⟩:∃m1,(aZ tN m).1=m1:=⟨_,rfl⟩
 have hb1:B63 19 m1:=by rw [←hm1];exact hb.of (j:=1) (me tN m)
 rw [hm1] at h10
 have e2:aX K C m=wu b nm 5 m1:=by rw [e1,aR,ha,hm1]
 have hgg:=Ck hc
 have hgr:=jP.1 hgg
 have hname:=nk C.gen (by omega) w10 (hT.au h10.chg)
 rw [hgg,if_pos rfl,hnm] at hname
 refine ⟨_,h10.top.ldL (i:=2) (o:=0) (l:=bP C sa sn sc pa pn pc) (by rw [←hT1];rfl) (jv _) rfl rfl,hname.mono ?_⟩
 rintro e w11 ⟨rfl,c11⟩
 obtain ⟨g10,w12,r12,k12⟩:=(St.start w11).zero (P:=Tryz.prog) (T:=9) (z:=.string ByteArray.empty) (fun w=>Tryz.zeroValue9 w)
 have k12:St w11 [] w12 [.arr g10 9 [.string ByteArray.empty]]:=k12
 obtain ⟨w13,r13,k13⟩:=k12.stL (i:=0) (o:=0) (off:=0) (T:=9) (v:=aK nm) rfl (OB _) rfl (by simp) rfl
 have h13:=(h10.same c11).cR k13
 obtain ⟨T2,hT2⟩:∃T2,T1++ [.arr g10 9 [aK nm]]=T2:=⟨_,rfl⟩
 have h13:aj w0 [] w13 gd ps1 m1 (N++T2):=by rw [←hT2,←List.append_assoc];exact h13
 have ldP:∀ {w':World},St w0 [] w' T2→(Instr.loadAt 51 (pV g3)).run Tryz.prog w'=.ok (pV gd) w':=fun h=>by rw [←hT2] at h;exact ld3 h
 have ldN:∀ {w':World},St w0 [] w' T2→(Instr.loadAt 9 (pV g10)).run Tryz.prog w'=.ok (aK nm) w':=fun h=>ldQ (i:=5) h (by rw [←hT2,←hT1];rfl) (Dz _)
 have key:∀(i:Nat) (_:i<5) {w':World} {ps':List Nat} {m':ah},aj w0 [] w' gd ps' m' (N++T2)→B63 5 m'→∃v,(Instr.index 279 (.agg #[gH 186 [] [pV g3],gH 187 [] [pV g3,pV g7],gH 188 [] [pV g3],gH 84 [pV gd] [],gH 189 [] [pV g3,pV g10]]) (.int .i64 (i:Int))).run Tryz.prog w'=.ok v w'∧
     ∃(f:Nat) (pre cb:List Value),v=.func (.func f) ⟨pre⟩ ⟨cb⟩∧gG Tryz.prog f=true∧Calls Tryz.prog f (pre++([]:List Value)++cb).toArray w' fun e w''=>e=.returned (bG (vG b nm i m').2)∧∃ps'',aj w0 [] w'' gd ps'' (vG b nm i m').1 (N++T2):=fun i hi {w' ps' m'} hd hbm=>by
   obtain ⟨i0,i1,i2,i3,i4⟩:=MH (gH 186 [] [pV g3]) (gH 187 [] [pV g3,pV g7]) (gH 188 [] [pV g3]) (gH 84 [pV gd] []) (gH 189 [] [pV g3,pV g10]) w'
   have hcase:i=0∨i=1∨i=2∨i=3∨i=4:=by omega
   rcases hcase with rfl | rfl | rfl | rfl | rfl
   · refine ⟨_,i0,186,[],[pV g3],rfl,by kernel_rfl,?_⟩
     show Calls _ _ #[pV g3] _ _
     apply p5
     refine ⟨_,_,ldP hd.top,(oq tN hd hbm.s hbm.c).mono ?_⟩
     rintro e w'' ⟨rfl,ps'',hd2⟩
     exact ⟨_,rfl,rfl,ps'',hd2⟩
   · refine ⟨_,i1,187,[],[pV g3,pV g7],rfl,by kernel_rfl,?_⟩
     show Calls _ _ #[pV g3,pV g7] _ _
     apply p8
     obtain ⟨gl,w2',r2',k2'⟩:=(St.start w').lit bbT [.slice ea en ec] (by simp [Value.oneCell']) (by simp)
     refine ⟨_,_,ldP hd.top,_,_,_,ldQ (i:=4) hd.top (by rw [←hT2,←hT1];rfl) (bsA _),_,_,_,w2',r2',(o8 tN _ 1 1 [.slice ea en ec] [b] (hd.cR k2') (fun {w3 ps3 m3} h3=>⟨h3.top.rd (i:=0) rfl,eu (aj.top (h3.cut) |>.rd (i:=3) (by rw [←hT2,←hT1];rfl))⟩) hbm.s (by decide)).mono ?_⟩
     rintro e w'' ⟨rfl,hd2⟩
     exact ⟨_,rfl,rfl,_,hd2.cut⟩
   · refine ⟨_,i2,188,[],[pV g3],rfl,by kernel_rfl,?_⟩
     show Calls _ _ #[pV g3] _ _
     apply pS
     refine ⟨_,_,ldP hd.top,(uj tN hd hbm.s).mono ?_⟩
     rintro e w'' ⟨rfl,hd2⟩
     exact ⟨_,rfl,rfl,_,hd2⟩
   · refine ⟨_,i3,84,[pV gd],[],rfl,by kernel_rfl,?_⟩
     show Calls _ _ #[pV gd] _ _
     refine (mJ hd hbm.s).mono ?_
     rintro e w'' ⟨rfl,hd2⟩
     exact ⟨rfl,_,hd2⟩
   · refine ⟨_,i4,189,[],[pV g3,pV g10],rfl,by kernel_rfl,?_⟩
     show Calls _ _ #[pV g3,pV g10] _ _
     apply qd
     refine ⟨_,_,ldP hd.top,_,ldN hd.top,(CZ tN nm hd hbm.s hbm.c).mono ?_⟩
     rintro e w'' ⟨rfl,hd2⟩
     exact ⟨_,rfl,rfl,_,hd2⟩
 refine ⟨_,rfl,g10,w12,r12,w13,r13,gH 186 [] [pV g3],w13,rfl,gH 187 [] [pV g3,pV g7],w13,rfl,gH 188 [] [pV g3],w13,rfl,_,_,ldP h13.top,gH 84 [pV gd] [],w13,rfl,gH 189 [] [pV g3,pV g10],w13,rfl,_,HF g3 g7 gd g10 w13,fun x w'=>∃k:Nat,k≤5∧x=((5-k:Nat):Int)∧∃ps' m',aj w0 [] w' gd ps' m' (N++T2)∧wu b nm 5 m1=wu b nm k m'∧Cnt (5-k) m1 m',fun x _=>(5-x).toNat,⟨5,by omega,rfl,ps1,m1,h13,rfl,Cnt.refl _⟩,?_⟩
 rintro x w19 ⟨k,hk5,rfl,ps2,m2,h19,hrun,hcnt⟩
 have hb2:B63 14 m2:=(show B63 (5-k+14) m1 from ⟨by have:=hb1.1;omega,by have:=hb1.2;omega⟩).of hcnt
 refine ⟨fun hlt=>?_,fun hge=>?_⟩
 · obtain ⟨j,rfl⟩:∃j,k=j+1:=⟨k-1,by simp at hlt;omega⟩
   obtain ⟨v,hv,f,pre,cb,hfv,hgi,hcall⟩:=key (5- (j+1)) (by omega) h19 (⟨by have:=hb2.1;omega,by have:=hb2.2;omega⟩)
   refine ⟨v,hv,f,pre,cb,hfv,hgi,hcall.mono ?_⟩
   rintro e w20 ⟨rfl,ps3,h20⟩
   have ej:5- (j+1)=4-j:=by omega
   rw [ej] at h20
   have hstep:wu b nm 5 m1=aR (vG b nm (4-j) m2) (wu b nm j):=by rw [hrun,wu]
   refine ⟨_,rfl,_,az hI _ _ _,fun hbad=>?_,fun hok=>?_⟩
   · rw [ej] at hbad ⊢
     obtain ⟨y,hy⟩:=Option.isSome_iff_exists.1 hbad
     have e3:aX K C m=((vG b nm (4-j) m2).1,some y):=by rw [e2,hstep,aR,hy]
     rw [e3,hy]
     exact ⟨rfl,ps3,h20.cut⟩
   · rw [ej] at hok
     have hok:(vG b nm (4-j) m2).2=none:=by simpa using hok
     refine ⟨⟨j,by omega,?_,ps3,_,h20,by rw [hstep,aR,hok],?_⟩,?_⟩
     · rw [wrap_i64 (n:=((5- (j+1):Nat):Int)+1) (by omega) (by omega)];omega
     · exact (hcnt.trans (Am b nm (4-j) m2)).mono (by omega)
     · show (5-IntKind.wrap .i64 (((5- (j+1):Nat):Int)+1)).toNat<(5- ((5- (j+1):Nat):Int)).toNat
       rw [wrap_i64 (n:=((5- (j+1):Nat):Int)+1) (by omega) (by omega)];omega
 · obtain rfl:k=0:=by simp at hge;omega
   have e3:aX K C m=Cs nm m2:=by rw [e2,hrun,wu]
   refine ⟨_,_,ldP h19.top,(mJ h19 hb2.s).mono ?_⟩
   rintro e w21 ⟨rfl,h21⟩
   obtain ⟨m3,hm3⟩:∃m3,(aL m2).1=m3:=⟨_,rfl⟩
   have hb3:B63 13 m3:=by rw [←hm3];exact hb2.of (j:=1) (kZ m2)
   rw [hm3] at h21
   obtain ⟨o,ho⟩:∃o,(aL m2).2=o:=⟨_,rfl⟩
   have e4:aX K C m=(match (aL m2).2 with
     | none=>(m3,none)
     | some e=>if e=1 then (m3,some 1) else jX nm e m3):=by
     rw [e3,Cs,hm3]
     all_goals (cases (aL m2).2<;>rfl)
   rw [ho] at e4 ⊢
   refine ⟨_,rfl,fun t w'=>t=(decide (o=none)||decide (o=some 1))∧w'=w21,⟨_,sG hI _ _ _,fun hn=>⟨?_,rfl⟩,fun hn=>(kF o 1 w21).mono ?_⟩,?_⟩
   · have:o=none:=by simpa using hn
     simp [this]
   · rintro e w22 ⟨rfl,rfl⟩
     have:¬o=none:=by rintro rfl;simp at hn
     exact ⟨_,rfl,by simp [this],rfl⟩
   rintro t w23 ⟨rfl,rfl⟩
   refine ⟨fun hyes=>?_,fun hno=>?_⟩
   · have hz:(o=none∨o=some 1):=by simpa using hyes
     rcases hz with rfl | rfl
     · rw [e4];exact ⟨rfl,ps2,h21.cut⟩
     · rw [e4];exact ⟨rfl,ps2,h21.cut⟩
   · have hz:¬o=none∧¬o=some 1:=by simpa using hno
     obtain ⟨y,rfl⟩:∃y,o=some y:=by
       cases o with
       | none=>exact absurd rfl hz.1
       | some y=>exact ⟨y,rfl⟩
     have hy1:¬y=1:=fun e=>hz.2 (by rw [e])
     have e5:aX K C m=jX nm y m3:=by rw [e4];simp only [hy1,if_false]
     refine ⟨_,_,ldP h21.top,_,ldN h21.top,(Ip nm y h21 ⟨by have:=hb3.1;omega,by have:=hb3.2;omega⟩).mono ?_⟩
     rintro e w24 ⟨rfl,ps4,h24⟩
     rw [e5]
     exact ⟨_,rfl,rfl,ps4,h24.cut⟩
end

end Go.Proofs.YtpmhjnhgpplmnaaGreatDoor
end

section
namespace Go.Proofs.YtpmhjnhgpplmnaaGreatDoor
open Go Sx
set_option maxRecDepth 8000

def xq (n:Nm):Option Int:=zb 99 1 1099511627776 n
def E0 (ns:List Nm):Bool:=ns.any fun n=>(xq n).isSome
theorem Iy {m:ah} (hw:WFD m) (hd:m.down=false) {n:Nm} (hn:n∈cg m):bW m n=none:=by
 obtain ⟨e,he,rfl⟩:=List.mem_map.1 hn
 have hg:=(hw.dV.ent e he).2
 unfold bW
 rw [hd,hg]
 have hf:findD m.now e.name=some e:=(mh hw.dV.asc).2 he
 rw [hf]
 simp
theorem Kg {m:ah} (hw:WFD m) {n:Nm} (hn:n∈cg m):n.length≤64:=by
 obtain ⟨e,he,rfl⟩:=List.mem_map.1 hn
 have hg:=(hw.dV.ent e he).2
 simp only [cE,Bool.and_eq_true,decide_eq_true_eq] at hg
 exact hg.1.2
end Go.Proofs.YtpmhjnhgpplmnaaGreatDoor
end

section
namespace Go.Proofs.YtpmhjnhgpplmnaaGreatDoor
open Go Go.Proofs.YtpmhjnhgpplmnaaGreatDoor.Sx
set_option maxRecDepth 100000
variable (w:World) (R:Ending→World→Prop)
abbrev Ku (a:World) (b c d:Nat) (e:Nat→Nat→Bool→World→Prop):Prop:=∃f:World→Prop,f a.drew∧∃g h,(∀a,f a→LdQ 143 b (c+1) (.pointer (some ⟨g,h,none⟩)) a)∧∃b,(∀a,f a→LdQ 87 d 0 (.agg b) a)∧Calls Tryz.prog 137 #[.pointer (some ⟨g,h,none⟩),.agg b] a.drew (fun a b=>∃c d,a=.returned (.tuple #[.agg c,.bool d])∧∃a:World→Prop,(∀b,a b→f b)∧a b∧Alz 100 b fun b f=>∃g:World→Prop,(∀b,g b→a b)∧g f∧Stz 100 b 0 (.agg c) f fun a=>e b 0 d a)∧Alz 100 a.drew fun a c=>∃d:World→Prop,(∀a,d a→f a)∧d c∧Calls Tryz.prog 137 #[.pointer (some ⟨g,h,none⟩),.agg b] c fun b c=>∃f g,b=.returned (.tuple #[.agg f,.bool g])∧∃b:World→Prop,(∀a,b a→d a)∧b c∧Stz 100 a 0 (.agg f) c fun b=>e a 0 g b
theorem tD (a:Array Value) (b:ByteArray) (h:Bxz 142 (.agg a) w fun a c=>Lpz 51 a 0 c fun a d=>Clz 80 #[.pointer (some ⟨a,d,none⟩)] c fun a c d e=>Cbz 88 #[.slice a c d,.string b] e fun a b=>R (.returned (.bool a)) b):Calls Tryz.prog 175 #[.agg a,.string b] w R:=af 0x14141714631c017c Tryz.func175 (by kernel_rfl) h
theorem qP (a:Array Value) (b:Option Addr) (c d:Nat) (h:Bxz 142 (.agg a) w fun a d=>∃(e:Int→World→Prop) (f:Int→World→Nat),e 0 d∧∀d g,e d g→Ifz (decide (d<(c:Int))) (∃h i,b=some ⟨h,i,none⟩∧0≤d∧d<(c:Int)∧Lsz 9 h (i+Int.toNat d*1) g fun b=>Laz 142 a 0 g fun c=>Cbz 175 #[.agg c,.string b] g fun c h=>∃i:World→Prop,Ifz c (Lpz 51 a 0 h (fun a c=>Cvv 89 #[.pointer (some ⟨a,c,none⟩),.string b] h fun a b=>i b)) (i h)∧∀a,i a→e (IntKind.wrap .i64 (d+1)) a∧f (IntKind.wrap .i64 (d+1)) a<f d g) (R (.returned (.tuple #[])) g)):Calls Tryz.prog 136 #[.agg a,.slice b c d] w R:=af 0x2b009141631130041f1a0414183c01538c8200321d0111811c18152983d07c Tryz.func136 (by kernel_rfl) h
theorem rq (a:ByteArray) (h:R (.returned (.bool (!(a.toList==(ByteArray.mk #[]).toList)&&decide ((a.size:Int)≤1024)))) w):Calls Tryz.prog 82 #[.string a] w R:=af 0x13bec1d Tryz.func82 (by kernel_rfl) h
theorem kV (a:Array Value) (h:Bxz 142 (.agg a) w fun a b=>Lpz 51 a 0 b fun a c=>Clz 80 #[.pointer (some ⟨a,c,none⟩)] b fun a b c d=>Cbz 223 #[.slice a b c,.func (.func 224) #[] #[]] d fun a b=>R (.returned (.bool a)) b):Calls Tryz.prog 140 #[.agg a] w R:=af 0x1414714631c017c Tryz.func140 (by kernel_rfl) h
theorem jJ (a:ByteArray) (h:Calls Tryz.prog 26 #[.string a] w fun a b=>∃c d,a=.returned (.tuple #[.int .i64 c,.bool d])∧R (.returned (.bool d)) b):Calls Tryz.prog 224 #[.string a] w R:=af 0x2d05240241c1d Tryz.func224 (by kernel_rfl) h
theorem AK (a b:Nat) (c:ByteArray) (d:Option Addr) (e f:Nat) (g:Array Value) (h:Bxz 44 (.agg g) w fun g h=>Cbz 82 #[.string c] h fun h i=>Ifz (!h||(e:Int) != 48) (R (.returned (.tuple #[.pointer none,.iface 65 (.int .i64 28)])) i) (Laz 44 g 0 i (fun h=>Cvv 105 #[.agg h] i fun h i=>Nez .neq 58 (.tmp 38) h i fun j=>Ifz j (R (.returned (.tuple #[.pointer none,h])) i) (Buz 142 #[(0,.pointer (some ⟨a,b,none⟩))] i (fun h=>Alz 142 i fun i j=>Stz 142 i 0 (.agg h) j fun h=>Lpz 51 i 0 h fun j k=>Cbz 64 #[.pointer (some ⟨j,k,none⟩)] h fun h j=>Ifz h (R (.returned (.tuple #[.pointer none,.iface 65 (.int .i64 1)])) j) (Laz 142 i 0 j (fun h=>Cbz 140 #[.agg h] j fun h j=>Ifz h (R (.returned (.tuple #[.pointer none,.iface 65 (.int .i64 4)])) j) (Lpz 51 i 0 j (fun h k=>Clz 80 #[.pointer (some ⟨h,k,none⟩)] j fun h j k l=>∃(k:Int→World→Prop) (m:Int→World→Nat),k 0 l∧∀l n,k l n→Ifz (decide (l<(j:Int))) (∃a b,h=some ⟨a,b,none⟩∧0≤l∧l<(j:Int)∧Lsz 9 a (b+Int.toNat l*1) n fun a=>Lpz 51 i 0 n fun b c=>Cvv 89 #[.pointer (some ⟨b,c,none⟩),.string a] n fun a b=>Nez .neq 58 (.tmp 62) a b fun c=>Ifz c (R (.returned (.tuple #[.pointer none,a])) b) (k (IntKind.wrap .i64 (l+1)) b∧m (IntKind.wrap .i64 (l+1)) b<m l n)) (0≤(16:Int)∧16≤(e:Int)∧(e:Int)≤(f:Int)∧∀h,lT 1 d 16 f h→∃j,(Instr.arrayAt 39 (.slice h (e-16) (f-16))).run Tryz.prog n=.ok j n∧∃e,(Instr.loadAt 39 j).run Tryz.prog n=.ok (.agg e) n∧Alz 39 n fun h j=>Stz 39 h 0 (.agg e) j fun e=>∃j:World→Prop,j e.drew∧0≤(16:Int)∧16≤(f:Int)∧∃k,(∀a,j a→(Instr.arrayAt 209 (.slice d 16 f)).run Tryz.prog a=.ok k a)∧∃d,(∀a,j a→(Instr.loadAt 209 k).run Tryz.prog a=.ok (.agg d) a)∧∃f,(∀a,j a→LdQ 39 h 0 (.agg f) a)∧C4z 141 #[.string c,.agg d,.agg f] e.drew fun c d e f k=>∃l:World→Prop,(∀a,l a→j a)∧l k∧Nez .neq 58 (.tmp 80) f k fun j=>Ifz j (R (.returned (.tuple #[.pointer none,f])) k) (∃f:World→Prop,f k.drew∧∃j,(∀a,f a→LdQ 142 i 0 (.agg j) a)∧∃l,(∀a,f a→LdQ 39 h 0 (.agg l) a)∧∃h,(∀a,f a→LdQ 44 g 0 (.agg h) a)∧∃g,(∀a,f a→(Instr.build 47 #[(0,.int .i64 1),(2,.agg h)]).run Tryz.prog a=.ok (.agg g) a)∧Calls Tryz.prog 142 #[] k.drew fun h k=>∃m n,h=.returned (.pointer (some ⟨m,n,none⟩))∧∃h:World→Prop,(∀a,h a→f a)∧h k∧Caz 143 #[.agg l] k fun f k=>∃l:World→Prop,(∀a,l a→h a)∧l k∧∃h,(∀a,l a→(Instr.build 145 #[(0,.agg j),(1,.pointer (some ⟨m,n,none⟩)),(2,.agg f),(3,.agg g)]).run Tryz.prog a=.ok (.agg h) a)∧Bxz 145 (.agg h) k fun f g=>∃h:World→Prop,(∀a,h a→l a)∧h g∧Lpz 51 i 0 g fun h j=>Cvv 144 #[.pointer (some ⟨h,j,none⟩),.string (ByteArray.mk #[107,101,121])] g fun g h=>Nez .neq 58 (.tmp 94) g h fun j=>Ifz j (R (.returned (.tuple #[.pointer none,g])) h) (Lpz 51 i 0 h (fun g j=>Bsz 24 1 #[(0,.slice c d e)] h fun c d e h=>Cvv 145 #[.pointer (some ⟨g,j,none⟩),.string (ByteArray.mk #[107,101,121]),.slice c d e] h fun c d=>Nez .neq 58 (.tmp 102) c d fun e=>Ifz e (R (.returned (.tuple #[.pointer none,c])) d) (Lpz 51 i 0 d (fun c e=>Cvv 146 #[.pointer (some ⟨c,e,none⟩),.string (ByteArray.mk #[107,101,121])] d fun c d=>Nez .neq 58 (.tmp 108) c d fun e=>Ifz e (R (.returned (.tuple #[.pointer none,c])) d) (∃c:World→Prop,c d.drew∧∃e,(∀a,c a→LdQ 41 f 2 (.agg e) a)∧∃g,(∀a,c a→LdQ 47 f 98 (.agg g) a)∧Cvv 92 #[.pointer (some ⟨a,b,none⟩),.agg e,.agg g] d.drew fun a b=>∃d:World→Prop,(∀a,d a→c a)∧d b∧Nez .neq 58 (.tmp 121) a b fun c=>Ifz c (R (.returned (.tuple #[.pointer none,a])) b) (R (.returned (.tuple #[.pointer (some ⟨f,0,none⟩),.nilIface])) b))))))))))))))))):Calls Tryz.prog 54 #[.pointer (some ⟨a,b,none⟩),.string c,.slice d e f,.agg g] w R:=af 0x3d003d30431c0001a19181948183843765321072522003d30431c01914631c2003d30431c01914751631c2003d30431c01914631c2000181374863818346181485384382380352003d30431c2001b1a1918752972864853843933621102252067839391c2b003d30431c019141631c01538c8200321d0116e11c6e21d2183980d714631c2003d3041483c2003d30414631c2067831c003d30431c0191483c2003d303be41442c20d7c Tryz.func54 (by kernel_rfl) h
theorem yd (a:Array Value) (b:ByteArray) (h:Bxz 142 (.agg a) w fun a c=>Laz 142 a 0 c fun d=>Cbz 175 #[.agg d,.string (ByteArray.mk #[107,101,121])] c fun c d=>Ifz (!c) (Laz 142 a 0 d (fun a=>Cbz 140 #[.agg a] d fun a b=>Ifz a (R (.returned (.tuple #[.pointer none,.iface 65 (.int .i64 10)])) b) (R (.returned (.tuple #[.pointer none,.iface 65 (.int .i64 21)])) b))) (Lpz 51 a 0 d (fun c e=>C4z 57 #[.pointer (some ⟨c,e,none⟩),.string (ByteArray.mk #[107,101,121])] d fun c d e f g=>Nez .neq 58 (.tmp 23) f g fun h=>Ifz h (R (.returned (.tuple #[.pointer none,f])) g) (C3z 176 #[.string b,.slice c d e] g (fun b c d=>Alz 39 d fun d e=>Stz 39 d 0 (.agg b) e fun b=>Nez .neq 58 (.tmp 32) c b fun e=>Ifz e (R (.returned (.tuple #[.pointer none,c])) b) (∃c:World→Prop,c b.drew∧∃e,(∀b,c b→LdQ 142 a 0 (.agg e) b)∧∃f,(∀a,c a→LdQ 39 d 0 (.agg f) a)∧Calls Tryz.prog 142 #[] b.drew fun b d=>∃g h,b=.returned (.pointer (some ⟨g,h,none⟩))∧∃b:World→Prop,(∀a,b a→c a)∧b d∧Caz 143 #[.agg f] d fun c d=>∃f:World→Prop,(∀a,f a→b a)∧f d∧∃b,(∀a,f a→(Instr.build 145 #[(0,.agg e),(1,.pointer (some ⟨g,h,none⟩)),(2,.agg c)]).run Tryz.prog a=.ok (.agg b) a)∧Bxz 145 (.agg b) d fun b c=>∃d:World→Prop,(∀a,d a→f a)∧d c∧∃d:World→Prop,d c.drew∧∃e f,(∀b,d b→LdQ 51 a 0 (.pointer (some ⟨e,f,none⟩)) b)∧∃a,(∀c,d c→LdQ 41 b 2 (.agg a) c)∧C3z 91 #[.pointer (some ⟨e,f,none⟩),.agg a] c.drew fun a c e=>∃f:World→Prop,(∀a,f a→d a)∧f e∧Stz 47 b 98 (.agg a) e fun a=>R (.returned (.tuple #[.pointer (some ⟨b,0,none⟩),c])) a)))))):Calls Tryz.prog 83 #[.agg a,.string b] w R:=af 0x4d71833203001e141d41c1b1a19185298287486362354310525200061354843818346181482380352003d30431c20167e9824dc003d30431c20529724631c003d003d3041483c230141483c20d7c Tryz.func83 (by kernel_rfl) h
theorem A2 (a b:Nat) (c:ByteArray) (h:Cbz 82 #[.string c] w fun d e=>Ifz (!d) (R (.returned (.tuple #[.pointer none,.iface 65 (.int .i64 28)])) e) (Cbz 64 #[.pointer (some ⟨a,b,none⟩)] e (fun d e=>Ifz d (R (.returned (.tuple #[.pointer none,.iface 65 (.int .i64 1)])) e) (Buz 142 #[(0,.pointer (some ⟨a,b,none⟩))] e (fun a=>C2z 83 #[.agg a,.string c] e fun a b c=>Nez .neq 58 (.tmp 36) b c fun d=>Ifz d (R (.returned (.tuple #[.pointer none,b])) c) (∃b d,a=.pointer (some ⟨b,d,none⟩)∧Lpz 51 b d c fun b d=>Cvv 84 #[.pointer (some ⟨b,d,none⟩)] c fun b c=>Nez .neq 58 (.tmp 45) b c fun d=>Ifz d (R (.returned (.tuple #[.pointer none,b])) c) (∃b d,a=.pointer (some ⟨b,d,none⟩)∧Llz 45 b (d+98+8) c fun b d e=>∃(e:Int→World→Prop) (f:Int→World→Nat),e 0 c∧∀c g,e c g→Ifz (decide (c<(d:Int))) (∃h i,b=some ⟨h,i,none⟩∧0≤c∧c<(d:Int)∧Laz 91 h (i+Int.toNat c*3) g fun b=>Alz 91 g fun d h=>Stz 91 d 0 (.agg b) h fun b=>Laz 91 d 0 b fun h=>Calls Tryz.prog 85 #[a,.agg h] b fun b h=>∃i j k l,b=.returned (.tuple #[.slice i j k,.bool l])∧Ifz (!l) (∃b:World→Prop,b h.drew∧∃i j,a=.pointer (some ⟨i,j,none⟩)∧∃k l m,(∀a,b a→LdQ 29 i (j+107) (.slice k l m) a)∧∃i,(∀a,b a→LdQ 3 d 0 (.int .i64 i) a)∧Bsz 29 1 #[(0,.int .i64 i)] h.drew fun d h i j=>∃n:World→Prop,(∀a,n a→b a)∧n j∧Apz 29 (.slice k l m) (.slice d h i) j fun b d h i=>∃j:World→Prop,(∀a,j a→n a)∧j i∧∃j k,a=.pointer (some ⟨j,k,none⟩)∧Stz 29 j (k+107) (.slice b d h) i fun a=>e (IntKind.wrap .i64 (c+1)) a∧f (IntKind.wrap .i64 (c+1)) a<f c g) (∃b d,a=.pointer (some ⟨b,d,none⟩)∧Lpz 143 b (d+1) h fun a b=>Cvv 86 #[.pointer (some ⟨a,b,none⟩),.slice i j k] h fun a b=>Nez .neq 58 (.tmp 83) a b fun d=>Ifz d (R (.returned (.tuple #[.pointer none,a])) b) (e (IntKind.wrap .i64 (c+1)) b∧f (IntKind.wrap .i64 (c+1)) b<f c g))) (∃b c,a=.pointer (some ⟨b,c,none⟩)∧Laz 47 b (c+98) g fun b=>Clz 87 #[.agg b] g fun b c d e=>∃f g,a=.pointer (some ⟨f,g,none⟩)∧Lpz 51 f g e fun f g=>Clz 80 #[.pointer (some ⟨f,g,none⟩)] e fun e f g h=>∃(g:Int→World→Prop) (i:Int→World→Nat),g 0 h∧∀h j,g h j→Ifz (decide (h<(f:Int))) (∃k l,e=some ⟨k,l,none⟩∧0≤h∧h<(f:Int)∧Lsz 9 k (l+Int.toNat h*1) j fun e=>Cbz 88 #[.slice b c d,.string e] j fun b c=>Ifz b (g (IntKind.wrap .i64 (h+1)) c∧i (IntKind.wrap .i64 (h+1)) c<i h j) (∃b d,a=.pointer (some ⟨b,d,none⟩)∧Lpz 51 b d c fun a b=>Cvv 89 #[.pointer (some ⟨a,b,none⟩),.string e] c fun a b=>Cbz 90 #[a,.iface 65 (.int .i64 1)] b fun b c=>Ifz b (R (.returned (.tuple #[.pointer none,a])) c) (g (IntKind.wrap .i64 (h+1)) c∧i (IntKind.wrap .i64 (h+1)) c<i h j))) (R (.returned (.tuple #[a,.nilIface])) j))))))))):Calls Tryz.prog 21 #[.pointer (some ⟨a,b,none⟩),.string c] w R:=af 0x3d2b003d30414dc01914163dea1c0030414dc201538c8200321d0111cb12b1cb228243980d71463dea1c201714831ea1c2b003d30431c019141631ea1c0011b1041b401a1e1917218472740637435322e2110225232d20524724831c067838c8200321d0116e1496e41a243980d73dea1c2003d30431c0191463dea1c2003d30431c205299241831c003d304141c2003d30d41442c22d Tryz.func21 (by kernel_rfl) h
theorem nQ (a b:Nat) (h:Alz 47 w fun c d=>Laz 47 a (b+98) d fun a=>Caz 40 #[.agg a] d fun a b=>Stz 47 c 0 (.agg a) b fun a=>∃b,(loadVar 47 ⟨c,0,none⟩).run Tryz.prog a=.ok b a∧R (.returned b) a):Calls Tryz.prog 16 #[.pointer (some ⟨a,b,none⟩)] w R:=af 0x681483ec072d207c Tryz.func16 (by kernel_rfl) h
theorem sM (a b:Nat) (h:Alz 41 w fun c d=>Laz 41 a (b+2) d fun a=>Stz 41 c 0 (.agg a) d fun a=>∃b,(loadVar 41 ⟨c,0,none⟩).run Tryz.prog a=.ok b a∧R (.returned b) a):Calls Tryz.prog 53 #[.pointer (some ⟨a,b,none⟩)] w R:=af 0x683ec072d207c Tryz.func53 (by kernel_rfl) h
theorem sj (a b:Nat) (h:Lpz 143 a (b+1) w fun a b=>Clz 121 #[.pointer (some ⟨a,b,none⟩)] w fun a b c d=>R (.returned (.slice a b c)) d):Calls Tryz.prog 43 #[.pointer (some ⟨a,b,none⟩)] w R:=af 0x171463ec072d21d Tryz.func43 (by kernel_rfl) h
theorem rA (a b:Nat) (h:Lbz 4 a (b+108) w fun c=>Ifz c (R (.returned (.iface 65 (.int .i64 22))) w) (Lpz 51 a b w (fun a b=>Cbz 64 #[.pointer (some ⟨a,b,none⟩)] w fun a b=>Ifz a (R (.returned (.iface 65 (.int .i64 1))) b) (R (.returned .nilIface) b)))):Calls Tryz.prog 126 #[.pointer (some ⟨a,b,none⟩)] w R:=af 0x1d002d3014146342c02d30143ec73d821d Tryz.func126 (by kernel_rfl) h
theorem uC (a b:Nat) (c:Array Value) (h:Bxz 87 (.agg c) w fun c d=>Cvv 126 #[.pointer (some ⟨a,b,none⟩)] d fun d e=>Nez .neq 58 (.tmp 14) d e fun f=>Ifz f (R (.returned (.tuple #[.slice none 0 0,d])) e) (∃d:Nat→Nat→Bool→World→Prop,Ku e a b c d∧∀e f g h,d e f g h→Ifz (!g) (R (.returned (.tuple #[.slice none 0 0,.iface 65 (.int .i64 10)])) h) (∃d:World→Prop,d h.drew∧∃g i,(∀c,d c→LdQ 51 a b (.pointer (some ⟨g,i,none⟩)) c)∧∃j,(∀a,d a→LdQ 3 e (f+32) (.int .i64 j) a)∧∃k,(∀a,d a→LdQ 3 e (f+33) (.int .i64 k) a)∧∃l,(∀a,d a→LdQ 3 e (f+34) (.int .i64 l) a)∧Csz 132 #[.int .i64 j] h.drew fun e f=>∃h:World→Prop,(∀a,h a→d a)∧h f∧C4z 138 #[.pointer (some ⟨g,i,none⟩),.string e,.int .i64 k,.int .i64 l] f fun d e f g i=>∃j:World→Prop,(∀a,j a→h a)∧j i∧Nez .neq 58 (.tmp 45) g i fun g=>Ifz g (R (.returned (.tuple #[.slice none 0 0,.iface 65 (.int .i64 10)])) i) (∃g:World→Prop,g i.drew∧0≤(32:Int)∧(32:Int)≤32∧∃h,(∀c,g c→LdQ 41 a (b+2) (.agg h) c)∧C4z 111 #[.agg h,.int .u8 2,.slice (some ⟨c,0,none⟩) 32 32,.slice d e f] i.drew fun d e f h i=>∃j:World→Prop,(∀a,j a→g a)∧j i∧Nez .neq 58 (.tmp 58) h i fun g=>Ifz g (R (.returned (.tuple #[.slice none 0 0,h])) i) (∃g:World→Prop,g i.drew∧∃h,(∀c,g c→LdQ 41 a (b+2) (.agg h) c)∧∃a,(∀b,g b→LdQ 87 c 0 (.agg a) b)∧Caz 139 #[.agg h,.slice d e f] i.drew fun b c=>∃h:World→Prop,(∀a,h a→g a)∧h c∧∃g,(∀c,h c→(fF .neq 87 (.tmp 66) (.tmp 67) (.agg b) (.agg a)).run Tryz.prog c=.ok (.bool g) c)∧Ifz g (R (.returned (.tuple #[.slice none 0 0,.iface 65 (.int .i64 10)])) c) (R (.returned (.tuple #[.slice d e f,.nilIface])) c)))))):Calls Tryz.prog 51 #[.pointer (some ⟨a,b,none⟩),.agg c] w R:=af 0x3d003d30047381854863833421042522003d30431c2001b1a19187529728648330516412103252003d30431c20029281f1e1d5297281c45187401b301930636431a18532107252003d32d221a272001b141a4187632482854319001b141a431941876324828568436332103254622711929272a2003d30431c019141c20d7c Tryz.func51 (by kernel_rfl) h
theorem qQ (a b:Nat) (c:Option Addr) (d e:Nat) (f:Option Addr) (g i:Nat) (h:∃e h,(Instr.makeMap 301 none).run Tryz.prog w=.ok e h∧∃(j:Option Addr→Nat→Nat→Int→World→Prop) (k:Option Addr→Nat→Nat→Int→World→Nat),j none 0 0 0 h∧∀h l m n o,j h l m n o→Ifz (decide (n<(d:Int))) (∃p q,c=some ⟨p,q,none⟩∧0≤n∧n<(d:Int)∧Llz 26 p (q+Int.toNat n*1) o fun c d p=>Laz 41 a (b+2) o fun q=>Caz 139 #[.agg q,.slice c d p] o fun q r=>Alz 87 r fun r s=>Stz 87 r 0 (.agg q) s fun q=>∃s:Nat→Nat→Bool→World→Prop,Ku q a b r s∧∀q t u v,s q t u v→∃s:Bool→World→Prop,Laz 87 r 0 v (fun a=>∃b,(Instr.lookup 301 e (.agg a) false).run Tryz.prog v=.ok (.int .i64 b) v∧Ifz (decide (b>(0:Int))) (s true v) (Ifz u (Liz 3 q (t+32) v (fun a=>Cbz 135 #[.slice f g i,.int .i64 a] v fun a b=>s (!a) b)) (s false v)))∧∀f g,s f g→Ifz f (j h l m (IntKind.wrap .i64 (n+1)) g∧k h l m (IntKind.wrap .i64 (n+1)) g<k h l m n o) (∃f:World→Prop,f g.drew∧∃i,(∀a,f a→LdQ 87 r 0 (.agg i) a)∧∃q,(∀a,f a→(Instr.lookup 301 e (.agg i) false).run Tryz.prog a=.ok (.int .i64 q) a)∧∃s t u,(Instr.mapEntry 301 e (.agg i)).run Tryz.prog g.drew=.ok (.tuple #[s,.int .i64 t]) u∧∃g:World→Prop,(∀a,g a→f a)∧g u∧∃f,(Instr.entryStore 301 e (.int .i64 t) (.int .i64 (IntKind.wrap .i64 (q+1)))).run Tryz.prog u=.ok () f∧∃e:World→Prop,e f.drew∧0≤(32:Int)∧(32:Int)≤32∧∃g,(∀a,e a→LdQ 87 r 0 (.agg g) a)∧∃i,(∀c,e c→LdQ 41 a (b+2) (.agg i) c)∧Clz 101 #[.agg i,.int .u8 2,.slice (some ⟨r,0,none⟩) 32 32,.slice c d p] f.drew fun a b c d=>∃f:World→Prop,(∀a,f a→e a)∧f d∧∃e,(∀d,f d→(Instr.build 303 #[(0,.agg g),(1,.slice a b c)]).run Tryz.prog d=.ok (.agg e) d)∧Bsz 212 1 #[(0,.agg e)] d fun a b c d=>∃e:World→Prop,(∀a,e a→f a)∧e d∧Apz 212 (.slice h l m) (.slice a b c) d fun a b c d=>∃f:World→Prop,(∀a,f a→e a)∧f d∧j a b c (IntKind.wrap .i64 (n+1)) d∧k a b c (IntKind.wrap .i64 (n+1)) d<k h l m n o)) (R (.returned (.slice h l m)) o)):Calls Tryz.prog 127 #[.pointer (some ⟨a,b,none⟩),.slice c d e,.slice f g i] w R:=af 0x2d2b0001c1721b4721a4819371818485381307166143204251610464051092944031023813001520030720e41403d5acd019258cd0383114116911e4c1a2221a272001b141a4187632482854319001b141a4319418763248285684363321032546221c1193b21c2a2067814183ec01738c8200321d0721291726c2941a173983d20195c1d1d Tryz.func127 (by kernel_rfl) h
theorem sQ (a b:Nat) (c:Option Addr) (d e:Nat) (f:Option Addr) (g i:Nat) (j:Bool) (h:Alz 47 w fun h k=>Laz 47 a (b+98) k fun l=>Alz 47 k fun k m=>Stz 47 k 0 (.agg l) m fun l=>∃m:Bool→World→Prop,Liz 3 k 0 l (fun a=>Ifz (a==(1099511627776:Int)) (m true l) (Ifz j (Liz 3 k 1 l (fun a=>m (a==(1099511627776:Int)) l)) (m false l)))∧∀l n,m l n→Ifz l (Laz 47 k 0 n (fun a=>Stz 47 h 0 (.agg a) n fun a=>∃b,(loadVar 47 ⟨h,0,none⟩).run Tryz.prog a=.ok b a∧R (.returned (.tuple #[b,.slice none 0 0,.iface 65 (.int .i64 20)])) a)) (Liz 3 k 0 n (fun l=>Stz 3 k 0 (.int .i64 (IntKind.wrap .i64 (l+1))) n fun l=>Clz 109 #[.slice c d e] l fun c d e l=>Stz 25 k 7 (.slice c d e) l fun c=>Stz 45 k 8 (.slice none 0 0) c fun c=>Llz 45 a (b+98+8) c fun a b d=>∃(d:Option Addr→Nat→Nat→Int→World→Prop) (e:Option Addr→Nat→Nat→Int→World→Nat),d none 0 0 0 c∧∀c l m n o,d c l m n o→Ifz (decide (n<(b:Int))) (∃h j,a=some ⟨h,j,none⟩∧0≤n∧n<(b:Int)∧Laz 91 h (j+Int.toNat n*3) o fun a=>Alz 91 o fun b h=>Stz 91 b 0 (.agg a) h fun a=>Liz 3 b 0 a fun h=>Cbz 135 #[.slice f g i,.int .i64 h] a fun a f=>∃g:Option Addr→Nat→Nat→World→Prop,Ifz a (Laz 91 b 0 f (fun a=>Bsz 45 1 #[(0,.agg a)] f fun a b d e=>Apz 45 (.slice c l m) (.slice a b d) e fun a b c d=>g a b c d)) (Llz 45 k 8 f (fun a d e=>Laz 91 b 0 f fun b=>Bsz 45 1 #[(0,.agg b)] f fun b f h i=>Apz 45 (.slice a d e) (.slice b f h) i fun a b d e=>Stz 45 k 8 (.slice a b d) e fun a=>g c l m a))∧∀a b f h,g a b f h→d a b f (IntKind.wrap .i64 (n+1)) h∧e a b f (IntKind.wrap .i64 (n+1)) h<e c l m n o) (∃a:World→Prop,Ifz j (Llz 45 k 8 o (fun b c d=>Liz 3 k 1 o fun e=>Buz 91 #[(0,.int .i64 e)] o fun e=>Bsz 45 1 #[(0,.agg e)] o fun e f g h=>Apz 45 (.slice b c d) (.slice e f g) h fun b c d e=>Stz 45 k 8 (.slice b c d) e fun b=>Liz 3 k 1 b fun c=>Stz 3 k 1 (.int .i64 (IntKind.wrap .i64 (c+1))) b fun b=>a b)) (a o)∧∀b,a b→Llz 45 k 8 b fun a d e=>Ifz (decide ((d:Int)>1024)) (Laz 47 k 0 b (fun a=>Stz 47 h 0 (.agg a) b fun a=>∃b,(loadVar 47 ⟨h,0,none⟩).run Tryz.prog a=.ok b a∧R (.returned (.tuple #[b,.slice none 0 0,.iface 65 (.int .i64 19)])) a)) (∃a:World→Prop,a b.drew∧∃d,(∀b,a b→LdQ 47 k 0 (.agg d) b)∧∃e,(∀b,a b→LdQ 47 k 0 (.agg e) b)∧Cvv 38 #[.agg e] b.drew fun b e=>∃f:World→Prop,(∀b,f b→a b)∧f e∧Stz 47 h 0 (.agg d) e fun a=>∃d,(loadVar 47 ⟨h,0,none⟩).run Tryz.prog a=.ok d a∧R (.returned (.tuple #[d,.slice c l m,b])) a))))):Calls Tryz.prog 128 #[.pointer (some ⟨a,b,none⟩),.slice c d e,.slice f g i,.bool j] w R:=af 0x34112065224449183482380301152000d6183c30d731c2006d0311061757583031731c3001c18a1a1d22b0617575837311017575831137111c11a6e11c2a041403dc067838c8200321d07215e11c22b5e11e11c3980d7342c21d061c0617141c06d031c000d6183c30520e03138cd0722ecd03114113d11b2b1a2206783ec0d7c Tryz.func128 (by kernel_rfl) h
theorem qX (a b:Nat) (c:Option Addr) (d e:Nat) (f:Option Addr) (g i:Nat) (j:Option Addr) (k l:Nat) (h:Bxz 29 (.slice j k l) w fun h j=>Cvv 126 #[.pointer (some ⟨a,b,none⟩)] j fun j k=>Nez .neq 58 (.tmp 22) j k fun l=>Ifz l (R (.returned j) k) (Llz 29 h 0 k (fun j l m=>Clz 127 #[.pointer (some ⟨a,b,none⟩),.slice c d e,.slice j l m] k fun c d e j=>Llz 29 h 0 j fun k l m=>Calls Tryz.prog 128 #[.pointer (some ⟨a,b,none⟩),.slice f g i,.slice k l m,.bool (decide ((d:Int)>0))] j fun f g=>∃i j k l m,f=.returned (.tuple #[.agg i,.slice j k l,m])∧Alz 47 g fun f g=>Stz 47 f 0 (.agg i) g fun g=>Nez .neq 58 (.tmp 40) m g fun i=>Ifz i (R (.returned m) g) (C4z 129 #[.pointer (some ⟨a,b,none⟩),.pointer (some ⟨f,0,none⟩),.slice c d e] g (fun c e g i l=>Nez .neq 58 (.tmp 49) i l fun m=>Ifz m (Cvv 130 #[.pointer (some ⟨a,b,none⟩),i,.bool (decide ((d:Int)>0))] l (fun a b=>R (.returned a) b)) (Liz 3 a (b+98) l (fun d=>Csz 30 #[.int .i64 d] l fun d i=>Laz 47 f 0 i fun f=>Stz 47 a (b+98) (.agg f) i fun f=>∃i:World→Prop,i f.drew∧∃l m,(∀c,i c→LdQ 143 a (b+1) (.pointer (some ⟨l,m,none⟩)) c)∧∃n o p,(∀a,i a→LdQ 29 h 0 (.slice n o p) a)∧Calls Tryz.prog 131 #[.pointer (some ⟨l,m,none⟩),.slice n o p] f.drew fun f l=>f=.returned (.tuple #[])∧∃f:World→Prop,(∀a,f a→i a)∧f l∧Lpz 143 a (b+1) l fun f i=>Cvv 86 #[.pointer (some ⟨f,i,none⟩),.slice c e g] l fun c e=>Nez .neq 58 (.tmp 79) c e fun f=>Ifz f (R (.returned c) e) (Bsz 166 1 #[(0,.string d)] e (fun c d e f=>∃(g:Option Addr→Nat→Nat→Int→World→Prop) (i:Option Addr→Nat→Nat→Int→World→Nat),g c d e 0 f∧∀c d e f l,g c d e f l→Ifz (decide (f<(k:Int))) (∃a b,j=some ⟨a,b,none⟩∧0≤f∧f<(k:Int)∧Laz 91 a (b+Int.toNat f*3) l fun a=>Alz 91 l fun b h=>Stz 91 b 0 (.agg a) h fun a=>Liz 3 b 0 a fun b=>Csz 132 #[.int .i64 b] a fun a b=>Bsz 166 1 #[(0,.string a)] b fun a b h j=>Apz 166 (.slice c d e) (.slice a b h) j fun a b h j=>g a b h (IntKind.wrap .i64 (f+1)) j∧i a b h (IntKind.wrap .i64 (f+1)) j<i c d e f l) (Llz 29 a (b+107) l (fun f g i=>∃j k,(Instr.makeFunc (.func 134) #[] #[.pointer (some ⟨h,0,none⟩)]).run Tryz.prog l=.ok j k∧Clz 133 #[.slice f g i,j] k fun f g h i=>Stz 29 a (b+107) (.slice f g h) i fun f=>Laz 142 a b f fun a=>Calls Tryz.prog 136 #[.agg a,.slice c d e] f fun a b=>a=.returned (.tuple #[])∧R (.returned .nilIface) b))))))))))):Calls Tryz.prog 49 #[.pointer (some ⟨a,b,none⟩),.slice c d e,.slice f g i,.slice j k l] w R:=af 0x1d004183ec06d714957342c2b01757551403d1067838c8200321d07211ae12921b1ae12b1293983d201751c002d30431c01914163ec2000854743633210325206d831c015140342c000191452c30431c20529724dc002d30431c20d674297834e73dc0171473dc002d30431c019141c2017c Tryz.func49 (by kernel_rfl) h
theorem qI (a b c d:Nat) (e:Option Addr) (f g:Nat) (h:∃h:Option Addr→Nat→Nat→World→Prop,Ifz (decide ((f:Int)>0)) (∃i:World→Prop,i w.drew∧∃j k l,(∀a,i a→LdQ 45 c (d+8) (.slice j k l) a)∧∃l m n,(∀a,i a→LdQ 45 c (d+8) (.slice l m n) a)∧∃c d,j=some ⟨c,d,none⟩∧0≤IntKind.wrap .i64 ((m:Int)-1)∧IntKind.wrap .i64 ((m:Int)-1)<(k:Int)∧Liz 3 c (d+Int.toNat (IntKind.wrap .i64 ((m:Int)-1))*3) w.drew fun i=>Csz 132 #[.int .i64 i] w.drew fun i j=>Laz 142 a b j fun k=>Cbz 175 #[.agg k,.string i] j fun j k=>∃l:World→Prop,Ifz j (Lpz 51 a b k (fun a b=>Cvv 89 #[.pointer (some ⟨a,b,none⟩),.string i] k fun a b=>Nez .neq 58 (.tmp 45) a b fun c=>Ifz c (R (.returned (.tuple #[.slice none 0 0,a])) b) (l b))) (l k)∧∀i,l i→∃j:World→Prop,j i.drew∧∃k l,(∀c,j c→LdQ 51 a b (.pointer (some ⟨k,l,none⟩)) c)∧∃n,(∀c,j c→LdQ 41 a (b+2) (.agg n) c)∧∃a,(∀b,j b→LdQ 3 c (d+Int.toNat (IntKind.wrap .i64 ((m:Int)-1))*3) (.int .i64 a) b)∧Calls Tryz.prog 220 #[.pointer (some ⟨k,l,none⟩),.agg n,.int .i64 a,.slice e f g] i.drew fun a b=>∃e f g i k,a=.returned (.tuple #[.slice e f g,.agg i,k])∧∃a:World→Prop,(∀b,a b→j b)∧a b∧Stz 91 c (d+Int.toNat (IntKind.wrap .i64 ((m:Int)-1))*3) (.agg i) b fun a=>Nez .neq 58 (.tmp 69) k a fun b=>Ifz b (R (.returned (.tuple #[.slice none 0 0,k])) a) (h e f g a)) (h none 0 0 w)∧∀e f g i,h e f g i→∃h:World→Prop,h i.drew∧∃j k,(∀c,h c→LdQ 51 a b (.pointer (some ⟨j,k,none⟩)) c)∧∃l,(∀c,h c→LdQ 41 a (b+2) (.agg l) c)∧∃a,(∀b,h b→LdQ 47 c d (.agg a) b)∧Cvv 92 #[.pointer (some ⟨j,k,none⟩),.agg l,.agg a] i.drew fun a b=>∃c:World→Prop,(∀a,c a→h a)∧c b∧R (.returned (.tuple #[.slice e f g,a])) b):Calls Tryz.prog 129 #[.pointer (some ⟨a,b,none⟩),.pointer (some ⟨c,d,none⟩),.slice e f g] w R:=af 0x1f1e229181d481c381936531b1a1876432101a2520003d30431c182811e31a36505002f142e42d2c2b2a292862987381f401d381936531e1c1b1a1876432101c2521d0003d30431c0191416342c3001a4e11b263a0414183ec0151403ec20001b151a1191822773733654210625237111817828762a3d21d2d Tryz.func129 (by kernel_rfl) h
theorem qo (a b:Nat) (c:Value) (d:Bool) (h:∃e:Bool→World→Prop,Cbz 90 #[c,.iface 65 (.int .i64 1)] w (fun a b=>Ifz a (e true b) (Cbz 90 #[c,.iface 65 (.int .i64 22)] b (fun a b=>e a b)))∧∀f g,e f g→Ifz f (Stz 4 a (b+108) (.bool true) g (fun a=>R (.returned c) a)) (∃e:World→Prop,Ifz d (∃c:World→Prop,c g.drew∧∃d,(∀e,c e→LdQ 142 a b (.agg d) e)∧∃f,(∀d,c d→LdQ 3 a (b+98+1) (.int .i64 f) d)∧Csz 132 #[.int .i64 f] g.drew fun a b=>∃f:World→Prop,(∀a,f a→c a)∧f b∧Bsz 166 1 #[(0,.string a)] b fun a b c g=>∃h:World→Prop,(∀a,h a→f a)∧h g∧Calls Tryz.prog 136 #[.agg d,.slice a b c] g fun a b=>a=.returned (.tuple #[])∧∃a:World→Prop,(∀b,a b→h b)∧a b∧e b) (e g)∧∀d,e d→Laz 142 a b d fun a=>Bsz 166 1 #[(0,.string (ByteArray.mk #[116]))] d fun b d e f=>Calls Tryz.prog 136 #[.agg a,.slice b d e] f fun a b=>a=.returned (.tuple #[])∧R (.returned c) b)):Calls Tryz.prog 130 #[.pointer (some ⟨a,b,none⟩),c,.bool d] w R:=af 0x2d0047583ec000081b4721a4518194018383376542107253001c2c1a1d2002d06ec301414d0421ac1414d14111e11871a221d Tryz.func130 (by kernel_rfl) h
theorem gq (a:Option Addr) (b c:Nat) (d:Value) (h:Ciz 291 #[.slice a b c,d] w fun a b=>R (.returned (.bool (decide (a≥(0:Int))))) b):Calls Tryz.prog 223 #[.slice a b c,d] w R:=af 0xd014dc1d Tryz.func223 (by kernel_rfl) h
theorem gQ (a:Option Addr) (b c:Nat) (d:Value) (h:∃(c:Int→World→Prop) (e:Int→World→Nat),c 0 w∧∀f g,c f g→Ifz (decide (f<(b:Int))) (∃h i,a=some ⟨h,i,none⟩∧0≤f∧f<(b:Int)∧Lsz 9 h (i+Int.toNat f*1) g fun a=>∃(b:Nat) (h:List Value),d=.func (.func b) #[] ⟨h⟩∧gG Tryz.prog b=true∧Calls Tryz.prog b (([.string a]:List Value)++h).toArray g fun a b=>∃d,a=.returned (.bool d)∧Ifz d (R (.returned (.int .i64 f)) b) (c (IntKind.wrap .i64 (f+1)) b∧e (IntKind.wrap .i64 (f+1)) b<e f g)) (R (.returned (.int .i64 (-1))) g)):Calls Tryz.prog 291 #[.slice a b c,d] w R:=af 0x1d2b002d3041ba538ec2d8200321d0111811b18242983d21d Tryz.func291 (by kernel_rfl) h
theorem jw (a:Option Addr) (b c:Nat) (d:Value) (h:Ciz 166 #[.slice a b c,d] w fun e f=>Ifz (e==(-1:Int)) (R (.returned (.slice a b c)) f) (∃(g:Int→Int→World→Prop) (h:Int→Int→World→Nat),g e (IntKind.wrap .i64 (e+1)) f∧∀e f i,g e f i→Ifz (decide (f<(b:Int))) (∃c j,a=some ⟨c,j,none⟩∧0≤f∧f<(b:Int)∧Liz 3 c (j+Int.toNat f*1) i fun c=>∃(j:Nat) (k:List Value),d=.func (.func j) #[] ⟨k⟩∧gG Tryz.prog j=true∧Calls Tryz.prog j (([.int .i64 c]:List Value)++k).toArray i fun d j=>∃k,d=.returned (.bool k)∧∃d:Int→World→Prop,Ifz (!k) (∃f g,a=some ⟨f,g,none⟩∧0≤e∧e<(b:Int)∧Stz 3 f (g+Int.toNat e*1) (.int .i64 c) j fun a=>d (IntKind.wrap .i64 (e+1)) a) (d e j)∧∀a b,d a b→g a (IntKind.wrap .i64 (f+1)) b∧h a (IntKind.wrap .i64 (f+1)) b<h e f i) (0≤e∧e≤(b:Int)∧(b:Int)≤(c:Int)∧∀d,lT 1 a (Int.toNat e) c d→∃f g,(Builtin.clear_ #[29] 0 #[.slice d (b-Int.toNat e) (c-Int.toNat e)]).run Tryz.prog i=.ok f g∧0≤e∧e≤(c:Int)∧R (.returned (.slice a (Int.toNat e) c)) g))):Calls Tryz.prog 133 #[.slice a b c,d] w R:=af 0x19dc0959dc3b03b068ec30115163e152a0141badc01038dc820034d20022512c28352983d2002d32d201014dc1d Tryz.func133 (by kernel_rfl) h
end Go.Proofs.YtpmhjnhgpplmnaaGreatDoor
end

section
namespace Go.Proofs.YtpmhjnhgpplmnaaGreatDoor
open Go Sx
set_option maxRecDepth 8000

theorem plA (w:World):(isAgg 142).run Tryz.prog w=.ok true w:=Tryz.isAgg142 w
theorem plS (w:World):(sizeOf 142).run Tryz.prog w=.ok 1 w:=Tryz.sizeOf142 w
abbrev plV (gd:Nat):Value:=.agg [pV gd].toArray

def dL:Nm:=[107,101,121]
def cV (s:ByteArray):Bool:=decide (1≤s.size∧s.size≤1024)
theorem mw (s:ByteArray) (w:World):Calls Tryz.prog 82 #[.string s] w fun e w'=>e=.returned (.bool (cV s))∧w'=w:=by
 apply rq
 refine ⟨?_,rfl⟩
 have h0:(s.toList==(ByteArray.mk #[]).toList)=decide (s.size=0):=by
   rw [ByteArray.toList_eq,ByteArray.toList_eq]
   rw [Bool.eq_iff_iff,decide_eq_true_eq,beq_iff_eq]
   show s.data.toList=[]↔s.data.size=0
   rw [Array.toList_eq_nil_iff,Array.size_eq_zero_iff]
 rw [h0]
 unfold cV
 congr 2
 rw [Bool.eq_iff_iff]
 simp only [Bool.and_eq_true,Bool.not_eq_true',decide_eq_true_eq,decide_eq_false_iff_not]
 omega

section
variable {w0 w w':World} {N:List Res} {gd:Nat} {ps:List Nat} {m:ah}

theorem yQ (n:Nm) (h:aj w0 [] w gd ps m N):Calls Tryz.prog 175 #[plV gd,aK n] w fun e w'=>e=.returned (.bool (yF m n))∧Chg [] w w':=by
 apply tD
 obtain ⟨g2,w1,r1,k1⟩:=(St.start w).cz (P:=Tryz.prog) 142 [pV gd]
 have k1:St w [] w1 [.arr g2 142 [pV gd]]:=k1
 refine ⟨g2,w1,r1,_,_,k1.ldL (i:=0) (l:=[pV gd]) rfl (pdA _) rfl rfl,(mU (h.same k1.chg)).mono ?_⟩
 rintro e w2 ⟨la,lc,rfl,k2⟩
 have hnl:(cg m).length≤4096:=by have:=h.wf.dV.len;simpa [cg] using this
 refine ⟨_,_,_,rfl,(nV la _ lc (cg m) n w2 (k2.rd (i:=0) rfl) (by omega)).mono ?_⟩
 rintro e w3 ⟨rfl,rfl⟩
 exact ⟨_,rfl,rfl,k1.chg.trans k2.chg⟩

theorem rY (s:List UInt8) (hs:s.length≤281474976710656) (w:World) (hT:iE w) (hE:ql w):Calls Tryz.prog 224 #[aK s] w fun e w'=>e=.returned (.bool (xq s).isSome)∧Chg [] w w':=by
 apply jJ
 refine (Cf s hs w hT hE).mono ?_
 rintro e w1 ⟨rfl,c1⟩
 exact ⟨_,_,rfl,rfl,c1⟩

theorem CO (a:Option Addr) (n c:Nat) (ns:List Nm) (w:World) (hl:∀x∈ns,x.length≤64) (hT:iE w) (hE:ql w) (hr:Rd w a n c 1 (ns.map aK)) (hb:n≤4611686018427387904):
   Calls Tryz.prog 291 #[.slice a n c,.func (.func 224) #[] #[]] w fun e w'=>∃t:Int,e=.returned (.int .i64 t)∧decide (t≥0)=E0 ns∧Chg [] w w':=by
 have hln:ns.length=n:=by have:=hr.len;simpa using this
 apply gQ
 refine ⟨fun y w'=>∃i:Nat,y=(i:Int)∧i≤n∧E0 (ns.take i)=false∧Chg [] w w',fun y _=>n-y.toNat,⟨0,rfl,by omega,by simp [E0],Chg.refl _ _⟩,?_⟩
 rintro y w1 ⟨i,rfl,hi,hno,hc⟩
 refine ⟨fun h=>?_,fun h=>?_⟩
 · have hi':i<n:=by simp at h;omega
   obtain ⟨s,hs⟩:∃s,ns[i]?=some s:=⟨_,List.getElem?_eq_getElem (by omega)⟩
   obtain ⟨b,o,ha,hcl⟩:=(hr.au hc).cells.at_ (i:=i) (v:=aK s) (by rw [List.getElem?_map,hs];rfl)
   have hm:=List.mem_of_getElem? hs
   refine ⟨b,o,ha,by omega,by omega,_,by rw [Int.toNat_natCast,Nat.mul_one];exact ld1 (Dz _) hcl,_,[],rfl,by kernel_rfl,(rY s (by have:=hl s hm;omega) w1 (hT.au hc) (hE.au hc)).mono ?_⟩
   rintro e w2 ⟨rfl,c2⟩
   refine ⟨_,rfl,fun h=>?_,fun h=>⟨⟨i+1,ay hi' hb,by omega,?_,hc.trans c2⟩,aB hi' hb⟩⟩
   · refine ⟨_,rfl,?_,hc.trans c2⟩
     have:E0 ns=true:=List.any_eq_true.2 ⟨s,hm,h⟩
     rw [this];simp
   · rw [List.take_add_one,hs]
     unfold E0 at hno ⊢
     rw [List.any_append,hno]
     simpa using h
 · have hi':i=n:=by simp at h;omega
   rw [hi',←hln,List.take_length] at hno
   exact ⟨_,rfl,by rw [hno];simp,hc⟩

theorem lX (h:aj w0 [] w gd ps m N) (hT:iE w0) (hE:ql w0):Calls Tryz.prog 140 #[plV gd] w fun e w'=>e=.returned (.bool (E0 (cg m)))∧Chg [] w w':=by
 apply kV
 obtain ⟨g2,w1,r1,k1⟩:=(St.start w).cz (P:=Tryz.prog) 142 [pV gd]
 have k1:St w [] w1 [.arr g2 142 [pV gd]]:=k1
 refine ⟨g2,w1,r1,_,_,k1.ldL (i:=0) (l:=[pV gd]) rfl (pdA _) rfl rfl,(mU (h.same k1.chg)).mono ?_⟩
 rintro e w2 ⟨la,lc,rfl,k2⟩
 have hnl:(cg m).length≤4096:=by have:=h.wf.dV.len;simpa [cg] using this
 have hc2:=h.chg.trans (k1.chg.trans k2.chg)
 refine ⟨_,_,_,rfl,?_⟩
 apply gq
 refine (CO la _ lc (cg m) w2 (fun x hx=>Kg h.wf hx) (hT.au hc2) (hE.au hc2) (k2.rd (i:=0) rfl) (by omega)).mono ?_
 rintro e w3 ⟨t,rfl,ht,c3⟩
 exact ⟨t,rfl,_,rfl,by rw [ht],(k1.chg.trans k2.chg).trans c3⟩

def dW (ns:List Nm) (m:ah):ah:=ns.foldl (fun m n=>(aZ n m).1) m
theorem kJ:∀(ns:List Nm) (m:ah),Cnt ns.length m (dW ns m)
 | [],m=>Cnt.refl m
 | n::ns,m=>((me n m).trans (kJ ns (aZ n m).1)).mono (by simp;omega)
theorem z8 (a:Option Addr) (n c:Nat) (ns:List Nm) (h:aj w0 [] w gd ps m N) (hr:∀w',Chg [] w0 w'→St w0 [] w' N→Rd w' a n c 1 (ns.map aK)) (hn:n≤1000000) (hb:B63 (ns.length+1) m):
   Calls Tryz.prog 136 #[plV gd,.slice a n c] w fun e w'=>e=.returned (.tuple #[])∧aj w0 [] w' gd ps (dW ns m) N:=by
 have hln:ns.length=n:=by have:=(hr w h.chg h.rest).len;simpa using this
 apply qP
 obtain ⟨g2,w1,r1,k1⟩:=(St.start w).cz (P:=Tryz.prog) 142 [pV gd]
 have k1:St w [] w1 [.arr g2 142 [pV gd]]:=k1
 have h1:=h.cR k1
 have top0:∀ {w':World} {m':ah},aj w0 [] w' gd ps m' (N++ [.arr g2 142 [pV gd]])→Rd w' a n c 1 (ns.map aK):=fun h'=>hr _ h'.chg h'.cut.rest
 refine ⟨g2,w1,r1,fun y w'=>∃i:Nat,y=(i:Int)∧i≤n∧aj w0 [] w' gd ps (dW (ns.take i) m) (N++ [.arr g2 142 [pV gd]]),fun y _=>n-y.toNat,⟨0,rfl,by omega,by rw [List.take_zero];exact h1⟩,?_⟩
 rintro y w2 ⟨i,rfl,hi,h2⟩
 refine ⟨fun hlt=>?_,fun hge=>?_⟩
 · have hi':i<n:=by simp at hlt;omega
   obtain ⟨s,hs⟩:∃s,ns[i]?=some s:=⟨_,List.getElem?_eq_getElem (by omega)⟩
   obtain ⟨b,o,ha,hcl⟩:=(top0 h2).cells.at_ (i:=i) (v:=aK s) (by rw [List.getElem?_map,hs];rfl)
   have e1:dW (ns.take (i+1)) m=(aZ s (dW (ns.take i) m)).1:=by rw [List.take_add_one,hs];simp [dW]
   have hbm:B63 1 (dW (ns.take i) m):=by
     refine B63.of (j:=i) ?_ ((kJ (ns.take i) m).mono (by simp;omega))
     exact ⟨by have:=hb.1;omega,by have:=hb.2;omega⟩
   refine ⟨b,o,ha,by omega,by omega,_,by rw [Int.toNat_natCast,Nat.mul_one];exact ld1 (Dz _) hcl,_,h2.top.ldA (i:=0) (l:=[pV gd]) rfl (plA _) (plS _) rfl,(yQ s h2).mono ?_⟩
   rintro e w3 ⟨rfl,c3⟩
   have h3:=h2.same c3
   refine ⟨_,rfl,fun w'=>aj w0 [] w' gd ps (dW (ns.take (i+1)) m) (N++ [.arr g2 142 [pV gd]]),⟨fun hin=>?_,fun hout=>?_⟩,fun w5 h5=>⟨⟨i+1,ay hi' (by omega),by omega,h5⟩,aB hi' (by omega)⟩⟩
   · refine ⟨_,_,h3.top.ldL (i:=0) (l:=[pV gd]) rfl (pdA _) rfl rfl,(kY s h3 hbm.s hbm.c).mono ?_⟩
     rintro e w4 ⟨rfl,h4⟩
     refine ⟨_,rfl,?_⟩
     have:aZ s (dW (ns.take i) m)=aM (dW (ns.take i) m) s:=by unfold aZ;rw [hin];rfl
     rw [e1,this]
     exact h4
   · have:aZ s (dW (ns.take i) m)=(dW (ns.take i) m,none):=by unfold aZ;rw [hout];rfl
     rw [e1,this]
     exact h3
 · have hi':i=n:=by simp at hge;omega
   rw [hi',←hln,List.take_length] at h2
   exact ⟨rfl,h2.cut⟩
end

end Go.Proofs.YtpmhjnhgpplmnaaGreatDoor
end

section
namespace Go.Proofs.YtpmhjnhgpplmnaaGreatDoor
open Go Go.Proofs.YtpmhjnhgpplmnaaGreatDoor.Sx
set_option maxRecDepth 100000
variable (w:World) (R:Ending→World→Prop)
theorem zk (a:Array Value) (h:Bxz 100 (.agg a) w fun a b=>Liz 3 a 32 b fun c=>Ifz (decide (c≥(0:Int))) (Liz 3 a 32 b (fun c=>Ifz (decide (c≤(1099511627776:Int))) (Liz 3 a 33 b (fun c=>Ifz (decide (c≥(0:Int))) (Liz 3 a 34 b (fun a=>R (.returned (.bool (decide (a≥(0:Int))))) b)) (R (.returned (.bool false)) b))) (R (.returned (.bool false)) b))) (R (.returned (.bool false)) b)):Calls Tryz.prog 182 #[.agg a] w R:=af 0x1f201a20520e03128ce0311bce0316cd031c017c Tryz.func182 (by kernel_rfl) h
theorem uw (a b:Array Value) (h:Bxz 87 (.agg a) w fun a c=>Bxz 87 (.agg b) c fun b c=>0≤(32:Int)∧(32:Int)≤32∧0≤(32:Int)∧(32:Int)≤32∧Ciz 217 #[.slice (some ⟨a,0,none⟩) 32 32,.slice (some ⟨b,0,none⟩) 32 32] c.drew fun a b=>R (.returned (.int .i64 a)) b):Calls Tryz.prog 219 #[.agg a,.agg b] w R:=af 0x401003101824611601420177c Tryz.func219 (by kernel_rfl) h
theorem AN (h:∃a b,(Instr.makeMap 270 none).run Tryz.prog w=.ok a b∧Buz 272 #[(0,a)] b fun a=>Bxz 272 (.agg a) b fun a b=>R (.returned (.pointer (some ⟨a,0,none⟩))) b):Calls Tryz.prog 142 #[] w R:=af 0x178395c1d Tryz.func142 (by kernel_rfl) h
theorem qS (a b:Nat) (c:Option Addr) (d e:Nat) (h:Cbz 180 #[.slice c d e,.func (.func 181) #[] #[]] w fun e f=>Ifz e (R (.returned (.iface 65 (.int .i64 28))) f) (∃(e:Int→World→Prop) (g:Int→World→Nat),e 0 f∧∀f h,e f h→Ifz (decide (f<(d:Int))) (∃i j,c=some ⟨i,j,none⟩∧0≤f∧f<(d:Int)∧Laz 100 i (j+Int.toNat f*35) h fun c=>Alz 100 h fun d i=>Stz 100 d 0 (.agg c) i fun c=>∃i:World→Prop,i c.drew∧∃j,(∀c,i c→(Instr.loadAt 270 (.pointer (some ⟨a,b,none⟩))).run Tryz.prog c=.ok j c)∧∃a,(∀b,i b→LdQ 87 d 0 (.agg a) b)∧∃b,(∀a,i a→LdQ 100 d 0 (.agg b) a)∧∃d,(Instr.mapUpdate 270 j (.agg a) (.agg b)).run Tryz.prog c.drew=.ok () d∧∃a:World→Prop,(∀b,a b→i b)∧a d∧e (IntKind.wrap .i64 (f+1)) d∧g (IntKind.wrap .i64 (f+1)) d<g f h) (R (.returned .nilIface) h))):Calls Tryz.prog 86 #[.pointer (some ⟨a,b,none⟩),.slice c d e] w R:=af 0x1d2b004748638539334210425067838c8200321d0112811c28162983d2002d30141442c21d Tryz.func86 (by kernel_rfl) h
theorem ow (a:Array Value) (h:Bxz 100 (.agg a) w fun a b=>Laz 100 a 0 b fun a=>Cbz 182 #[.agg a] b fun a b=>R (.returned (.bool (!a))) b):Calls Tryz.prog 181 #[.agg a] w R:=af 0xd41483c017c Tryz.func181 (by kernel_rfl) h
theorem qj (a b:Nat) (c:Option Addr) (d e:Nat) (h:∃f,(Instr.loadAt 270 (.pointer (some ⟨a,b,none⟩))).run Tryz.prog w=.ok f w∧∃g h,(Instr.range 270 f).run Tryz.prog w=.ok g h∧∃(f:World→Prop) (i:World→Nat),f h∧∀h,f h→∃(j:Bool) (k:List Value) (l:World),(Instr.next g false 0).run Tryz.prog h=.ok (.tuple ⟨.bool j::k⟩) l∧Ifz j (∃j k m,(Instr.entry g).run Tryz.prog l=.ok (.tuple #[.agg j,.agg k]) m∧Alz 87 m fun g l=>Alz 100 l fun l m=>Stz 87 g 0 (.agg j) m fun j=>Stz 100 l 0 (.agg k) j fun j=>Liz 3 l 32 j fun k=>Cbz 135 #[.slice c d e,.int .i64 k] j fun c d=>∃e:World→Prop,Ifz c (∃c:World→Prop,c d.drew∧∃f,(∀d,c d→(Instr.loadAt 270 (.pointer (some ⟨a,b,none⟩))).run Tryz.prog d=.ok f d)∧∃a,(∀b,c b→LdQ 87 g 0 (.agg a) b)∧∃b g,(Builtin.delete_ #[270,87] 0 #[f,.agg a]).run Tryz.prog d.drew=.ok b g∧∃a:World→Prop,(∀b,a b→c b)∧a g∧e g) (e d)∧∀a,e a→f a∧i a<i h) (R (.returned (.tuple #[])) l)):Calls Tryz.prog 131 #[.pointer (some ⟨a,b,none⟩),.slice c d e] w R:=af 0x925484393321032530052e1a041403dc06677d8829ac8003201aac001e1d2429809593ec072d2 Tryz.func131 (by kernel_rfl) h
theorem p7 (a b:Nat) (c:Array Value) (h:Bxz 87 (.agg c) w fun c d=>Alz 100 d fun d e=>∃f:Nat→Nat→Bool→World→Prop,(∃d:World→Prop,d e.drew∧∃g,(∀c,d c→(Instr.loadAt 270 (.pointer (some ⟨a,b,none⟩))).run Tryz.prog c=.ok g c)∧∃a,(∀b,d b→LdQ 87 c 0 (.agg a) b)∧(∃b c h,(Instr.lookup 270 g (.agg a) true).run Tryz.prog e.drew=.ok (.tuple #[.agg b,.bool c]) h∧∃a:World→Prop,(∀b,a b→d b)∧a h∧Alz 100 h fun d e=>∃g:World→Prop,(∀b,g b→a b)∧g e∧Stz 100 d 0 (.agg b) e fun a=>f d 0 c a)∧Alz 100 e.drew fun b c=>∃e:World→Prop,(∀a,e a→d a)∧e c∧∃d h i,(Instr.lookup 270 g (.agg a) true).run Tryz.prog c=.ok (.tuple #[.agg d,.bool h]) i∧∃a:World→Prop,(∀b,a b→e b)∧a i∧Stz 100 b 0 (.agg d) i fun a=>f b 0 h a)∧∀a b c e,f a b c e→Laz 100 a b e fun a=>Stz 100 d 0 (.agg a) e fun a=>∃b,(loadVar 100 ⟨d,0,none⟩).run Tryz.prog a=.ok b a∧R (.returned (.tuple #[b,.bool c])) a):Calls Tryz.prog 137 #[.pointer (some ⟨a,b,none⟩),.agg c] w R:=af 0x16183c21a272001b141a4187632482954319001b141a43194187632482956843933210325462261191b262a2072d20177c Tryz.func137 (by kernel_rfl) h
theorem rF (a b:Nat) (h:∃c,(Instr.loadAt 270 (.pointer (some ⟨a,b,none⟩))).run Tryz.prog w=.ok c w∧∃a b,(Instr.range 270 c).run Tryz.prog w=.ok a b∧∃(c:Option Addr→Nat→Nat→World→Prop) (d:Option Addr→Nat→Nat→World→Nat),c none 0 0 b∧∀b e f g,c b e f g→∃(h:Bool) (i:List Value) (j:World),(Instr.next a false 0).run Tryz.prog g=.ok (.tuple ⟨.bool h::i⟩) j∧Ifz h (∃h i k,(Instr.entry a).run Tryz.prog j=.ok (.tuple #[h,.agg i]) k∧Alz 100 k fun a h=>Stz 100 a 0 (.agg i) h fun h=>Laz 100 a 0 h fun a=>Bsz 48 1 #[(0,.agg a)] h fun a h i j=>Apz 48 (.slice b e f) (.slice a h i) j fun a h i j=>c a h i j∧d a h i j<d b e f g) (Calls Tryz.prog 168 #[.slice b e f,.func (.func 218) #[] #[]] j (fun a c=>a=.returned (.tuple #[])∧R (.returned (.slice b e f)) c))):Calls Tryz.prog 121 #[.pointer (some ⟨a,b,none⟩)] w R:=af 0x2d0041c017575831106718929ac8003201aac71131181d151339809593ec21d072d21d Tryz.func121 (by kernel_rfl) h
theorem nS (a b:Array Value) (h:Bxz 100 (.agg a) w fun a c=>Bxz 100 (.agg b) c fun b c=>Laz 87 a 0 c fun a=>Laz 87 b 0 c fun b=>Ciz 219 #[.agg a,.agg b] c fun a b=>R (.returned (.int .i64 a)) b):Calls Tryz.prog 218 #[.agg a,.agg b] w R:=af 0x1014831831c0177c Tryz.func218 (by kernel_rfl) h
theorem uH (a:Option Addr) (b c:Nat) (d:Option Addr) (e f:Nat) (h:∃g h,(callFunc 289 #[.slice a b c,.slice d e f]).run Tryz.prog w=.ok (.value (.int .i64 g)) h∧R (.returned (.int .i64 g)) h):Calls Tryz.prog 217 #[.slice a b c,.slice d e f] w R:=af 0x10dadc1d Tryz.func217 (by kernel_rfl) h
theorem fG (a:Option Addr) (b c:Nat) (d:Value) (h:Ciz 261 #[.slice a b c,d] w fun a b=>R (.returned (.bool (decide (a≥(0:Int))))) b):Calls Tryz.prog 180 #[.slice a b c,d] w R:=af 0xd014dc1d Tryz.func180 (by kernel_rfl) h
theorem gv (a:Option Addr) (b c:Nat) (d:Value) (h:∃(c:Int→World→Prop) (e:Int→World→Nat),c 0 w∧∀f g,c f g→Ifz (decide (f<(b:Int))) (∃h i,a=some ⟨h,i,none⟩∧0≤f∧f<(b:Int)∧Laz 100 h (i+Int.toNat f*35) g fun a=>∃(b:Nat) (h:List Value),d=.func (.func b) #[] ⟨h⟩∧gG Tryz.prog b=true∧Calls Tryz.prog b (([.agg a]:List Value)++h).toArray g fun a b=>∃d,a=.returned (.bool d)∧Ifz d (R (.returned (.int .i64 f)) b) (c (IntKind.wrap .i64 (f+1)) b∧e (IntKind.wrap .i64 (f+1)) b<e f g)) (R (.returned (.int .i64 (-1))) g)):Calls Tryz.prog 261 #[.slice a b c,d] w R:=af 0x1d2b002d3041ba838ec2d8200321d0111811b18242983d21d Tryz.func261 (by kernel_rfl) h
theorem kQ (a:Option Addr) (b c:Nat) (d:Int) (h:Ciz 222 #[.slice a b c,.int .i64 d] w fun a b=>R (.returned (.bool (decide (a≥(0:Int))))) b):Calls Tryz.prog 135 #[.slice a b c,.int .i64 d] w R:=af 0xd014dc1d Tryz.func135 (by kernel_rfl) h
theorem lR (a:Option Addr) (b c:Nat) (d:Int) (h:∃(c:Int→World→Prop) (e:Int→World→Nat),c 0 w∧∀f g,c f g→Ifz (decide (f<(b:Int))) (∃h i,a=some ⟨h,i,none⟩∧0≤f∧f<(b:Int)∧Liz 3 h (i+Int.toNat f*1) g fun a=>Ifz (d==a) (R (.returned (.int .i64 f)) g) (c (IntKind.wrap .i64 (f+1)) g∧e (IntKind.wrap .i64 (f+1)) g<e f g)) (R (.returned (.int .i64 (-1))) g)):Calls Tryz.prog 222 #[.slice a b c,.int .i64 d] w R:=af 0x1d2b002d301038ec2d8200321d0111811b18242983d21d Tryz.func222 (by kernel_rfl) h
end Go.Proofs.YtpmhjnhgpplmnaaGreatDoor
end
