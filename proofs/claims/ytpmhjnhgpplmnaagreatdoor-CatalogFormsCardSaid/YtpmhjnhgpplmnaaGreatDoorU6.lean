/- The proof of CatalogFormsCardSaid, part 6: what it rests on (conditions: those that each theorem names). -/
import Derived.Test.YtpmhjnhgpplmnaaGreatDoorU5
import Derived.Shelf.SlGeneric
import Derived.Shelf.SlIter.Sorted
import Derived.Shelf.SortM.Plain
import Derived.Shelf.SortM.SortNone
import Derived.Ground.GgzProg
import Derived.Ground.SlgmProg
import Derived.Test.YtpmhjnhgpplmnaaGreatDoorProg
section
namespace Go.Proofs.YtpmhjnhgpplmnaaGreatDoor
open Go Sx
set_option maxRecDepth 8000

structure FR where
 g:Nat
 a:Option Addr
 c:Nat
 data:List UInt8
 syn:Nat
def FR.m (f:FR):FileM:=⟨f.data,f.syn⟩
def FR.val (f:FR):Value:=.slice f.a f.data.length f.c
def FR.blk (f:FR):Res:=.arr f.g 169 [f.val,.int .i64 (f.syn:Int)]
def FR.row (f:FR):Res:=.row 5 1 f.val f.data.length (bv f.data)
def DR (FL:List FR) (N:List Res):List Res:=FL.map FR.blk++(FL.map FR.row++N)

theorem perm_DR {FL:List FR} {i:Nat} {f:FR} (hi:FL[i]?=some f) (R N:List Res):(R++DR FL N).Perm (f.blk::f.row::(R++DR (FL.eraseIdx i) N)):=by
 obtain ⟨h1,_,h3⟩:=split_at hi
 rw [h3]
 conv=>lhs;rw [h1]
 unfold DR
 simp only [List.map_append,List.map_cons]
 have e1:R++((FL.take i).map FR.blk++f.blk::(FL.drop (i+1)).map FR.blk++((FL.take i).map FR.row++f.row::(FL.drop (i+1)).map FR.row++N))=(R++(FL.take i).map FR.blk)++f.blk::(((FL.drop (i+1)).map FR.blk++(FL.take i).map FR.row)++f.row::((FL.drop (i+1)).map FR.row++N)):=by simp [List.append_assoc]
 rw [e1]
 refine List.perm_middle.trans (List.Perm.cons _ ?_)
 have e2:R++(FL.take i).map FR.blk++(((FL.drop (i+1)).map FR.blk++(FL.take i).map FR.row)++f.row::((FL.drop (i+1)).map FR.row++N))=(R++(FL.take i).map FR.blk++((FL.drop (i+1)).map FR.blk++(FL.take i).map FR.row))++f.row::((FL.drop (i+1)).map FR.row++N):=by simp [List.append_assoc]
 rw [e2]
 refine List.perm_middle.trans (List.Perm.cons _ (List.Perm.of_eq ?_))
 simp [List.append_assoc]

theorem eraseIdx_set {α:Type} (l:List α) (i:Nat) (x:α):(l.set i x).eraseIdx i=l.eraseIdx i:=by
 rw [List.eraseIdx_eq_take_drop_succ,List.eraseIdx_eq_take_drop_succ,List.take_set_of_le (Nat.le_refl i),List.drop_set_of_lt (by omega)]

def ptrV (gs:List Nat) (i:Nat):Value:=.pointer (some ⟨gs.getD i 0,0,none⟩)
def chC (gs:List Nat) (c:ChM):List Value:=[match c.made with | some i=>ptrV gs i | none=>.pointer none,strV c.fr,strV c.to]
theorem chC_len (gs:List Nat) (c:ChM):(chC gs c).length=3:=rfl
theorem chC_one (gs:List Nat) (c:ChM):∀v∈chC gs c,v.oneCell'=true:=by
 intro v hv
 simp only [chC,List.mem_cons,List.not_mem_nil,or_false] at hv
 rcases hv with rfl | rfl | rfl
 · cases c.made<;>rfl
 · rfl
 · rfl
def niv (l:List Nat):List Value:=l.map fun x:Nat=>Value.int .i64 (x:Int)

structure FailsR (fl:List Nat) (fa:Option Addr) (fn fc:Nat) (F:Res):Prop where
 len:fl.length=fn
 le:fn≤fc
 at_:fn=0∨∃gf k L,fa=some ⟨gf,k,none⟩∧F=.arr gf 3 L∧(L.drop k).take fn=niv fl
 bd:∀x∈fl,x≤9223372036854775807

structure DP where
 av:Int
 fa:Option Addr
 fn:Nat
 fc:Nat
 gn:Nat
 gs:Nat
 ca:Option Addr
 cc:Nat
 FL:List FR
 F:Res
 esn:Array MapEntry
 ckn:Nat
 Mn:Dir
 ess:Array MapEntry
 cks:Nat
 Ms:Dir
def DP.ps (p:DP):List Nat:=p.FL.map FR.g
abbrev kyE (e:Ent):Value:=strV e.name
abbrev vlE (gs:List Nat) (e:Ent):Value:=ptrV gs e.file
structure DOk (m:DiskM) (p:DP):Prop where
 wf:WFD m
 files:p.FL.map FR.m=m.files
 arm:∀k,m.arm=some k→p.av=(k:Int)∧k≤9223372036854775807
 fails:FailsR m.fails p.fa p.fn p.fc p.F
 mapn:MapE kyE (vlE p.ps) p.esn p.ckn p.Mn
 isn:MapIsA Ent.name p.Mn m.now
 maps:MapE kyE (vlE p.ps) p.ess p.cks p.Ms
 iss:MapIsA Ent.name p.Ms m.syn
def dskL (m:DiskM) (p:DP):List Value:=[.int .i64 (m.steps:Int),.bool m.down,.bool m.arm.isSome,.int .i64 p.av,.slice p.fa p.fn p.fc,.int .i64 m.size,.map (some p.gn),.map (some p.gs),.slice p.ca m.chs.length p.cc]
def resD (gd:Nat) (m:DiskM) (p:DP):List Res:=[.arr gd 152 (dskL m p),.blk p.gn (.map p.esn p.ckn),.blk p.gs (.map p.ess p.cks),.row 164 3 (.slice p.ca m.chs.length p.cc) m.chs.length (m.chs.flatMap (chC p.ps)),p.F]
def DiskIn (w0:World) (X:List Nat) (w:World) (gd:Nat) (ps:List Nat) (m:DiskM) (N:List Res):Prop:=∃p,p.ps=ps∧DOk m p∧St w0 X w (resD gd m p++DR p.FL N)

section
variable {w0 w w':World} {X:List Nat} {N N':List Res} {gd:Nat} {ps:List Nat} {m:DiskM}

theorem DiskIn.same (h:DiskIn w0 X w gd ps m N) (hc:Chg [] w w'):DiskIn w0 X w' gd ps m N:=by obtain ⟨p,hps,hp,hS⟩:=h;exact ⟨p,hps,hp,hS.same hc⟩
theorem DiskIn.chg (h:DiskIn w0 X w gd ps m N):Chg X w0 w:=by obtain ⟨p,_,hp,hS⟩:=h;exact hS.chg
theorem DiskIn.wf (h:DiskIn w0 X w gd ps m N):WFD m:=by obtain ⟨p,_,hp,hS⟩:=h;exact hp.wf
theorem DiskIn.subN (h:DiskIn w0 X w gd ps m N) (hn:N'.Sublist N):DiskIn w0 X w gd ps m N':=by
 obtain ⟨p,hps,hp,hS⟩:=h
 exact ⟨p,hps,hp,hS.sub (List.Sublist.append_left (List.Sublist.append_left (List.Sublist.append_left hn _) _) _)⟩
theorem DiskIn.rest (h:DiskIn w0 X w gd ps m N):St w0 X w N:=by
 obtain ⟨p,hps,hp,hS⟩:=h
 exact hS.sub (((List.sublist_append_right _ _).trans (List.sublist_append_right _ _)).trans (List.sublist_append_right _ _))

theorem strT:ElemT Tryz.prog 166 9 1 16 (.string ByteArray.empty):=⟨by kernel_rfl,⟨Tryz.t9,by kernel_rfl,by kernel_rfl,by kernel_rfl,by kernel_rfl⟩,rfl,by decide⟩
theorem stA' (w:World):(isAgg 9).run Tryz.prog w=.ok false w:=Tryz.isAgg9 w
theorem stS' (w:World):(sizeOf 9).run Tryz.prog w=.ok 1 w:=Tryz.sizeOf9 w
theorem intA (w:World):(isAgg 3).run Tryz.prog w=.ok false w:=Tryz.isAgg3 w
theorem intS (w:World):(sizeOf 3).run Tryz.prog w=.ok 1 w:=Tryz.sizeOf3 w
theorem boolA (w:World):(isAgg 4).run Tryz.prog w=.ok false w:=Tryz.isAgg4 w
theorem boolS (w:World):(sizeOf 4).run Tryz.prog w=.ok 1 w:=Tryz.sizeOf4 w
theorem dirA (w:World):(isAgg 149).run Tryz.prog w=.ok false w:=Tryz.isAgg149 w
theorem dirS (w:World):(sizeOf 149).run Tryz.prog w=.ok 1 w:=Tryz.sizeOf149 w
theorem insA' (w:World):(isAgg 29).run Tryz.prog w=.ok false w:=Tryz.isAgg29 w
theorem insS (w:World):(sizeOf 29).run Tryz.prog w=.ok 1 w:=Tryz.sizeOf29 w
theorem chsA (w:World):(isAgg 150).run Tryz.prog w=.ok false w:=Tryz.isAgg150 w
theorem chsS (w:World):(sizeOf 150).run Tryz.prog w=.ok 1 w:=Tryz.sizeOf150 w
theorem bsS (w:World):(sizeOf 26).run Tryz.prog w=.ok 1 w:=Tryz.sizeOf26 w
theorem dirT:Tryz.prog.underlying 149=some (.map 9 162):=Tryz.underlying149
theorem keyD (M:Dir):KeyM Tryz.prog 9 strV (fun _=>True) kyE Ent.name M:=⟨str_ops Tryz.underlying9,fun _=>rfl,fun _ _=>trivial⟩
theorem pfZ (w:World):(zeroValue 162).run Tryz.prog w=.ok (.pointer none) w:=Tryz.zeroValue162 w

theorem ixStr {T:TypeId} (hT:Tryz.prog.underlying T=some .string) {l:Nm} {i:Nat} (hi:i<l.length) (w:World):(Instr.index T (.string ⟨l.toArray⟩) (.int .i64 (i:Int))).run Tryz.prog w=.ok (.int .u8 ((l.getD i 0).toNat:Int)) w:=by
 have h1:(⟨l.toArray⟩:ByteArray)[i]?=some (l.getD i 0):=by
   have h2:i<(⟨l.toArray⟩:ByteArray).size:=by show i<l.toArray.size;simpa using hi
   rw [getElem?_pos _ i h2]
   show some (l.toArray[i]'(by simpa using hi))=_
   simp [List.getD,hi]
 have h0:(0:Int)≤(i:Int):=by omega
 simp only [Instr.index,Sem.run_bind,asIntOf,Sem.run_pure,run_underlying hT,Result.andThen_ok,h0,if_true,Int.toNat_natCast,h1]

theorem size_mk (l:Nm):((⟨l.toArray⟩:ByteArray).size:Int)=(l.length:Int):=by show ((l.toArray.size:Nat):Int)=_;simp
theorem empty_eq (l:Nm):((⟨l.toArray⟩:ByteArray).toList==(ByteArray.mk #[]).toList)=decide (l.length=0):=by
 rw [ByteArray.toList_eq,ByteArray.toList_eq]
 cases l<;>rfl

theorem goodName_spec (l:Nm) (w:World):Calls Tryz.prog 256 #[strV l] w fun e w'=>e=.returned (.bool (goodN l))∧w'=w:=by
 apply disk_goodName_vc
 rw [empty_eq,size_mk]
 refine ⟨fun h=>?_,fun h=>?_⟩
 · have:goodN l=false:=by
     unfold goodN
     simp only [Bool.or_eq_true,decide_eq_true_eq] at h
     have:¬(0<l.length∧l.length≤64):=by omega
     by_cases h1:0<l.length<;>by_cases h2:l.length≤64<;>simp [h1,h2]<;>omega
   rw [this]
   exact ⟨rfl,rfl⟩
 · have hl:0<l.length∧l.length≤64:=by
     simp only [Bool.or_eq_false_iff,decide_eq_false_iff_not] at h
     omega
   refine ⟨fun x w'=>∃i:Nat,x=(i:Int)∧i≤l.length∧(l.take i).all goodB=true∧w'=w,fun x _=>l.length-x.toNat,⟨0,rfl,by omega,by simp,rfl⟩,?_⟩
   rintro x w1 ⟨i,rfl,hi,hall,rfl⟩
   refine ⟨fun h=>?_,fun h=>?_⟩
   · have hi':i<l.length:=by simp at h;omega
     have hx:=ixStr (T:=9) Tryz.underlying9 hi' w1
     have hb:l[i]?=some (l.getD i 0):=by simp [List.getD,hi']
     obtain ⟨b,hbd⟩:∃b,l.getD i 0=b:=⟨_,rfl⟩
     rw [hbd] at hx hb
     refine ⟨fun y w'=>y= !goodB b∧w'=w1,⟨_,hx,fun h1=>⟨?_,rfl⟩,fun h1=>⟨_,hx,fun h2=>⟨?_,rfl⟩,fun h2=>⟨_,hx,?_,rfl⟩⟩⟩,?_⟩
     · simp only [decide_eq_true_eq] at h1
       have:¬33≤b.toNat:=by omega
       simp [goodB,this]
     · simp only [decide_eq_true_eq] at h2
       have:¬b.toNat≤126:=by omega
       simp [goodB,this]
     · simp only [decide_eq_false_iff_not] at h1 h2
       have e1:33≤b.toNat:=by omega
       have e2:b.toNat≤126:=by omega
       by_cases h3:b.toNat=47
       · simp [goodB,h3]
       · have:¬((b.toNat:Int)=47):=by omega
         simp [goodB,e1,e2,h3,this]
     · rintro y w2 ⟨rfl,rfl⟩
       refine ⟨fun hbad=>?_,fun hgd=>⟨⟨i+1,wrap_succ hi' (by omega),by omega,?_,rfl⟩,mu_succ hi' (by omega)⟩⟩
       · have:goodN l=false:=by
           have h0:l.all goodB=false:=by
             rw [List.all_eq_false]
             exact ⟨b,List.mem_of_getElem? hb,by simpa using hbad⟩
           simp [goodN,h0]
         rw [this]
         exact ⟨rfl,rfl⟩
       · rw [List.take_add_one,hb,List.all_append,hall]
         simpa using hgd
   · have hi':i=l.length:=by simp at h;omega
     rw [hi',List.take_length] at hall
     have:goodN l=true:=by simp [goodN,hl.1,hl.2,hall]
     rw [this]
     exact ⟨rfl,rfl⟩

theorem DiskIn.cell {p:DP} (hS:St w0 X w (resD gd m p++DR p.FL N)) {i:Nat} {v:Value} {T:TypeId} (hT:(isAgg T).run Tryz.prog w=.ok false w) (hv:(dskL m p)[i]?=some v):(Instr.loadAt T (.pointer (some ⟨gd,i,none⟩))).run Tryz.prog w=.ok v w:=
 hS.ldL (i:=0) (o:=i) rfl hT rfl hv

theorem ready_spec (a:Option Addr) (n c:Nat) (ns:List Nm) (h:DiskIn w0 X w gd ps m N) (hr:Rd w a n c 1 (ns.map strV)) (hb:n≤1000000):
   Calls Tryz.prog 177 #[.pointer (some ⟨gd,0,none⟩),.slice a n c] w fun e w'=>e=.returned (errV (readyM m ns))∧w'=w:=by
 have hln:ns.length=n:=by have:=hr.len;simpa using this
 obtain ⟨p,hps,hp,hS⟩:=h
 apply disk_Disk_ready_vc
 refine ⟨_,DiskIn.cell hS (i:=1) (boolA _) rfl,fun hd=>?_,fun hd=>?_⟩
 · rw [readyM,hd]
   exact ⟨rfl,rfl⟩
 · refine ⟨fun x w'=>∃i:Nat,x=(i:Int)∧i≤n∧(ns.take i).all goodN=true∧w'=w,fun x _=>n-x.toNat,⟨0,rfl,by omega,by simp,rfl⟩,?_⟩
   rintro x w1 ⟨i,rfl,hi,hall,rfl⟩
   refine ⟨fun h=>?_,fun h=>?_⟩
   · have hi':i<n:=by simp at h;omega
     have hx:(ns.map strV)[i]?=some (strV (ns.getD i [])):=by simp [List.getD,show i<ns.length by omega]
     have hx2:ns[i]?=some (ns.getD i []):=by simp [List.getD,show i<ns.length by omega]
     obtain ⟨nm,hnm⟩:∃nm,ns.getD i []=nm:=⟨_,rfl⟩
     rw [hnm] at hx hx2
     obtain ⟨b,o,ha,hcell⟩:=hr.cells.at_ hx
     refine ⟨b,o,ha,by omega,by omega,_,by rw [Int.toNat_natCast,Nat.mul_one];exact ld1 (stA' _) hcell,(goodName_spec nm w1).mono ?_⟩
     rintro e w2 ⟨rfl,rfl⟩
     refine ⟨_,rfl,fun hbad=>?_,fun hgd=>⟨⟨i+1,wrap_succ hi' (by omega),by omega,?_,rfl⟩,mu_succ hi' (by omega)⟩⟩
     · have:ns.all goodN=false:=by
         rw [List.all_eq_false]
         exact ⟨nm,List.mem_of_getElem? hx2,by simpa using hbad⟩
       rw [readyM,hd,this]
       exact ⟨rfl,rfl⟩
     · rw [List.take_add_one,hx2,List.all_append,hall]
       simpa using hgd
   · have hi':i=n:=by simp at h;omega
     rw [hi',List.take_of_length_le (by omega)] at hall
     rw [readyM,hd,hall]
     exact ⟨rfl,rfl⟩

theorem look_spec {p:DP} (hp:DOk m p) (hg:w.heap[p.gn]?=some (.map p.esn p.ckn)) (n:Nm):(Instr.lookup 149 (.map (some p.gn)) (strV n) true).run Tryz.prog w=.ok (.tuple #[((findD m.now n).map (vlE p.ps)).getD (.pointer none),.bool (findD m.now n).isSome]) w:=by
 have hl:=hp.mapn.lookupK (P:=Tryz.prog) (keyD p.Mn) dirT hg (id:=n) trivial pfZ
 have hf:=hp.isn.find n
 rw [hl]
 cases hq:fndM Ent.name p.Mn n with
 | none=>rw [hq] at hf;rw [show findD m.now n=none from hf.symm];rfl
 | some q=>rw [hq] at hf;rw [show findD m.now n=some q.2 from hf.symm];rfl

theorem found_spec (n:Nm) (h:DiskIn w0 X w gd ps m N):
   Calls Tryz.prog 149 #[.pointer (some ⟨gd,0,none⟩),strV n] w fun e w'=>e=.returned (.tuple #[if foundE m n=none then ptrV ps (foundI m n) else .pointer none,errV (foundE m n)])∧Chg [] w w':=by
 obtain ⟨mI,hI⟩:=eI
 apply disk_Disk_found_vc
 obtain ⟨g,w1,r1,h1⟩:=(St.start w).lit strT [strV n] (by simp [Value.oneCell',strV]) (by simp)
 have h1':=h1.chg
 refine ⟨_,_,_,w1,r1,(ready_spec _ _ _ [n] (h.same h1') (h1.rd (i:=0) rfl) (by simp)).mono ?_⟩
 rintro e w2 ⟨rfl,rfl⟩
 obtain ⟨p,hps,hp,hS⟩:=h
 have hrd:readyM m [n]=if m.down then some 1 else if goodN n then none else some 6:=by simp [readyM]
 refine ⟨_,rfl,_,neqS_nil hI _ _ _,fun hne=>?_,fun hok=>?_⟩
 · have hfr:foundE m n=readyM m [n]:=by
     rw [hrd] at hne ⊢
     unfold foundE
     cases hd:m.down<;>cases hg:goodN n<;>simp [hd,hg] at hne ⊢
   have hn0:¬foundE m n=none:=fun e=>by rw [hfr] at e;rw [e] at hne;simp at hne
   rw [if_neg hn0,hfr]
   exact ⟨rfl,h1'⟩
 · have hdn:m.down=false∧goodN n=true:=by
     rw [hrd] at hok
     cases hd:m.down<;>cases hg:goodN n<;>simp [hd,hg] at hok ⊢
   have hS1:=hS.same h1'
   have hlk:=look_spec hp (w:=w2) (hS1.holds 1 _ rfl) n
   refine ⟨_,DiskIn.cell hS1 (i:=6) (dirA _) rfl,_,_,w2,hlk,fun hno=>?_,fun hyes=>?_⟩
   · have hf:findD m.now n=none:=by
       cases hq:findD m.now n with
       | none=>rfl
       | some e=>rw [hq] at hno;simp at hno
     have:foundE m n=some 5:=by simp [foundE,hdn.1,hdn.2,hf]
     rw [this]
     exact ⟨rfl,h1'⟩
   · obtain ⟨e,hf⟩:∃e,findD m.now n=some e:=by
       cases hq:findD m.now n with
       | none=>rw [hq] at hyes;simp at hyes
       | some e=>exact ⟨e,rfl⟩
     have hfe:foundE m n=none:=by simp [foundE,hdn.1,hdn.2,hf]
     have hfi:foundI m n=e.file:=by simp [foundI,hf]
     rw [hfe,hf,hfi,←hps]
     exact ⟨rfl,h1'⟩

theorem DOk.file {p:DP} (hp:DOk m p) {i:Nat} (hi:i<m.files.length):∃f,p.FL[i]?=some f∧p.ps.getD i 0=f.g∧fileAt m.files i=⟨f.data,f.syn⟩:=by
 have hl:p.FL.length=m.files.length:=by have:=congrArg List.length hp.files;simpa using this
 have hf:p.FL[i]?=some p.FL[i]:=List.getElem?_eq_getElem (by omega)
 refine ⟨p.FL[i],hf,?_,?_⟩
 · simp [DP.ps,List.getD,show i<p.FL.length by omega]
 · rw [←hp.files]
   simp [fileAt,List.getD,show i<p.FL.length by omega,FR.m]

theorem St.ldFile {R:List Res} {FL:List FR} {i:Nat} {f:FR} (h:St w0 X w (R++DR FL N)) (hf:FL[i]?=some f):
   (Instr.loadAt 26 (.pointer (some ⟨f.g,0,none⟩))).run Tryz.prog w=.ok (.slice f.a f.data.length f.c) w∧(Instr.loadAt 3 (.pointer (some ⟨f.g,1,none⟩))).run Tryz.prog w=.ok (.int .i64 (f.syn:Int)) w∧RdB w f.a f.data.length f.c f.data:=by
 have h1:=h.perm (perm_DR hf R N)
 exact ⟨h1.ldL (i:=0) (o:=0) rfl (bsA _) rfl rfl,h1.ldL (i:=0) (o:=1) rfl (intA _) rfl rfl,h1.rd (i:=1) rfl⟩

theorem foundI_lt (hw:WFD m) {n:Nm} (h:foundE m n=none):foundI m n<m.files.length∧∃e∈m.now,e.name=n∧e.file=foundI m n∧findD m.now n=some e:=by
 have hf:∃e,findD m.now n=some e:=by
   unfold foundE at h
   split at h
   · cases h
   · split at h
     · cases h
     · split at h
       · cases h
       · rename_i hq
         cases hz:findD m.now n with
         | none=>rw [hz] at hq;simp at hq
         | some e=>exact ⟨e,rfl⟩
 obtain ⟨e,hf⟩:=hf
 obtain ⟨h1,h2⟩:=findA_mem hf
 have hfi:foundI m n=e.file:=by simp [foundI,hf]
 rw [hfi]
 exact ⟨(hw.okNow.ent e h1).1,e,h1,h2,rfl,hf⟩

theorem St.putBlk {M:List Res} (h:St w0 X w M) {i g:Nat} {o o':Obj} (hi:M[i]?=some (.blk g o)):St w0 X (w.putObj g o') (M.set i (.blk g o')):=by
 have hg:w.heap[g]?=some o:=h.holds i _ hi
 have hlt:=(Array.getElem?_eq_some_iff.1 hg).1
 refine h.upd hi ⟨rfl,rfl,rfl,by simp,fun k hk hx=>?_⟩ (World.putObj_heap_same hlt) (by simp [Res.fp])
 exact World.putObj_heap_other fun e=>hx (by simp [Res.fp,e])

end

section
variable {w0 w w':World} {X:List Nat} {N N' T T':List Res} {gd:Nat} {ps:List Nat} {m:DiskM}

theorem DiskIn.addSt (h:DiskIn w0 X w gd ps m N) (h':St w [] w' T):DiskIn w0 X w' gd ps m (N++T):=by
 obtain ⟨p,hps,hp,hS⟩:=h
 refine ⟨p,hps,hp,?_⟩
 have h1:St w0 X w' ((resD gd m p++DR p.FL N)++T):=Sx.St.callPart (N:=[]) (by rw [List.append_nil];exact hS) h'
 have e:(resD gd m p++DR p.FL N)++T=resD gd m p++DR p.FL (N++T):=by simp [DR,List.append_assoc]
 rw [←e];exact h1

theorem DiskIn.under (k:St w0 X w N) (h:DiskIn w [] w' gd ps m []):DiskIn w0 X w' gd ps m N:=by
 obtain ⟨p,hps,hp,hS⟩:=h
 have h1:=Sx.St.callPart (M:=N) (N:=[]) (by rw [List.append_nil];exact k) hS
 refine ⟨p,hps,hp,h1.perm ?_⟩
 have e:resD gd m p++DR p.FL N=(resD gd m p++DR p.FL [])++N:=by simp [DR,List.append_assoc]
 rw [e]
 exact List.perm_append_comm
end

theorem DiskIn.base {w w0 w':World} {gd:Nat} {ps:List Nat} {m:DiskM} {N:List Res} (h:DiskIn w0 [] w' gd ps m N) (hc:Chg [] w w0):DiskIn w [] w' gd ps m N:=by
 obtain ⟨p,hps,hp,hS⟩:=h
 have h0:St w [] w0 ([]++ []):=(St.start w).same hc
 exact ⟨p,hps,hp,by have:=Sx.St.callPart (M:=[]) (N:=[]) h0 hS;simpa using this⟩

theorem dkT:Tryz.prog.underlying 51=some (.pointer 152):=Tryz.underlying51

end Go.Proofs.YtpmhjnhgpplmnaaGreatDoor
end

section
namespace Go.Proofs.YtpmhjnhgpplmnaaGreatDoor.Sx
open Go
set_option maxRecDepth 8000

section
variable {P:Program} {α:Type} {key val:α→Value} {es:Array MapEntry} {clock:Nat} {M:List α}

def zipA (es:Array MapEntry) (M:List α):List (MapEntry×α):=es.toList.zip M
def leftA (es:Array MapEntry) (M:List α) (seen:Array Nat):List (MapEntry×α):=(zipA es M).filter fun p=> !seen.contains p.1.born
theorem zipA_fst (hE:MapE key val es clock M):(zipA es M).map (·.1)=es.toList:=by
 rw [zipA,List.map_fst_zip]
 have:=hE.len;simp;omega
theorem zipA_snd (hE:MapE key val es clock M):(zipA es M).map (·.2)=M:=by
 rw [zipA,List.map_snd_zip]
 have:=hE.len;simp;omega
theorem zipA_mem (hE:MapE key val es clock M) {p:MapEntry×α} (hp:p∈zipA es M):p.1∈es.toList∧p.1.key=key p.2∧p.1.val=val p.2:=by
 obtain ⟨i,hi⟩:=List.getElem?_of_mem hp
 rw [zipA,List.getElem?_zip_eq_some] at hi
 obtain ⟨r,h1,h2,h3⟩:=hE.at_ hi.1
 rw [hi.2,Option.some.injEq] at h1
 subst h1
 exact ⟨List.mem_of_getElem? hi.1,h2,h3⟩
theorem leftA_fst (hE:MapE key val es clock M) (seen:Array Nat):(leftA es M seen).map (·.1)=(leftOf es seen).toList:=by
 rw [leftOf,Array.toList_filter,←zipA_fst hE,List.filter_map,leftA]
 rfl
theorem leftA_size (hE:MapE key val es clock M) (seen:Array Nat):(leftOf es seen).size=(leftA es M seen).length:=by
 rw [←Array.length_toList,←leftA_fst hE,List.length_map]
theorem leftA_all (hE:MapE key val es clock M):(leftA es M #[]).map (·.2)=M:=by
 have:leftA es M #[]=zipA es M:=List.filter_eq_self.2 fun p _=>by simp
 rw [this,zipA_snd hE]

theorem filtA_step {β:Type} (bn:β→Nat) {L:List β} (hn:(L.map bn).Nodup) (seen:Array Nat) {p:β} (hp:p∈L.filter fun x=> !seen.contains (bn x)):
   (L.filter fun x=> !seen.contains (bn x)).Perm (p::L.filter fun x=> !(seen.push (bn p)).contains (bn x)):=by
 have key:∀(L:List β),(L.map bn).Nodup→p∈L→L.Perm (p::L.filter fun x=>bn x≠bn p):=by
   intro L
   induction L with
   | nil=>intro _ h;simp at h
   | cons x L ih=>
     intro hn hm
     rw [List.map_cons,List.nodup_cons] at hn
     rcases List.mem_cons.1 hm with rfl | hm
     · have hL:L.filter (fun x=>decide (bn x≠bn p))=L:=List.filter_eq_self.2 fun y hy=>by
         simp only [ne_eq,decide_eq_true_eq]
         exact fun h=>hn.1 (List.mem_map.2 ⟨y,hy,h⟩)
       rw [List.filter_cons,if_neg (by simp),hL]
     · have hx:bn x≠bn p:=fun h=>hn.1 (List.mem_map.2 ⟨p,hm,h.symm⟩)
       rw [List.filter_cons,if_pos (by simpa using hx)]
       exact ((ih hn.2 hm).cons x).trans (List.Perm.swap _ _ _)
 have hsub:((L.filter fun x=> !seen.contains (bn x)).map bn).Nodup:=hn.sublist ((List.filter_sublist).map _)
 refine (key _ hsub hp).trans (List.Perm.of_eq ?_)
 congr 1
 rw [List.filter_filter]
 apply List.filter_congr
 intro x _
 simp only [Array.contains_push,ne_eq]
 by_cases h2:bn x=bn p<;>cases h1:seen.contains (bn x)<;>simp [h1,h2]

def muR (gm gr:Nat) (w:World):Nat:=match w.heap[gm]?,w.heap[gr]? with
 | some (.map es _),some (.mapIter _ _ seen _)=>(leftOf es seen).size
 | _,_=>0
theorem muR_eq {gm gr:Nat} {w:World} {seen:Array Nat} {c0 c1:Nat} {o:Option Nat} (hg:w.heap[gm]?=some (.map es clock)) (hr:w.heap[gr]?=some (.mapIter o c0 seen c1)):muR gm gr w=(leftOf es seen).size:=by simp only [muR,hg,hr]

theorem range_step {w:World} {gr gm:Nat} {seen:Array Nat} (hE:MapE key val es clock M) (hr:w.heap[gr]?=some (.mapIter (some gm) clock seen clock)) (hg:w.heap[gm]?=some (.map es clock)):
   ((leftA es M seen)=[]∧(Instr.next (.pointer (some ⟨gr,0,none⟩)) false 0).run P w=.ok (.tuple #[.bool false]) w)∨
   ∃(e:MapEntry) (r:α) (w1:World),(w1=w∨w1=w.drew)∧(Instr.next (.pointer (some ⟨gr,0,none⟩)) false 0).run P w=.ok (.tuple #[.bool true,key r,val r]) (w1.putObj gr (.mapIter (some gm) clock (seen.push e.born) clock))∧r∈M∧
     (∀w2:World,w2.heap[gr]?=some (.mapIter (some gm) clock (seen.push e.born) clock)→w2.heap[gm]?=some (.map es clock)→(Instr.entry (.pointer (some ⟨gr,0,none⟩))).run P w2=.ok (.tuple #[key r,val r]) w2)∧
     ((leftA es M seen).map (·.2)).Perm (r::(leftA es M (seen.push e.born)).map (·.2))∧(leftA es M (seen.push e.born)).length<(leftA es M seen).length:=by
 rcases run_next_at (P:=P) w 0 gr gm clock clock seen es clock hr hg hE.old (Nat.le_refl _) with ⟨hz,hrun⟩ | ⟨e,he,w3,hw3,hrun⟩
 · left
   refine ⟨?_,hrun⟩
   rw [leftA_size hE] at hz
   exact List.eq_nil_of_length_eq_zero hz
 · right
   have hml:∃r,(e,r)∈leftA es M seen:=by
     rw [←leftA_fst hE,List.mem_map] at he
     obtain ⟨p,hp,rfl⟩:=he
     exact ⟨p.2,hp⟩
   obtain ⟨r,hr'⟩:=hml
   have hmem:=(List.mem_filter.1 hr').1
   obtain ⟨he1,hk,hv⟩:=zipA_mem hE hmem
   have hborn:((zipA es M).map fun p=>p.1.born).Nodup:=by
     have:=hE.born
     rw [←zipA_fst hE,List.map_map] at this
     exact this
   have hstep:=filtA_step (fun p:MapEntry×α=>p.1.born) hborn seen hr'
   have hrM:r∈M:=by
     have:=(List.mem_map (f:=fun p:MapEntry×α=>p.2)).2 ⟨_,hmem,rfl⟩
     rw [zipA_snd hE] at this
     exact this
   refine ⟨e,r,w3,hw3,?_,hrM,fun w2 h1 h2=>?_,hstep.map fun p:MapEntry×α=>p.2,?_⟩
   · simp only at hk hv
     rw [hk,hv] at hrun
     exact hrun
   · have:=run_entry_at (P:=P) w2 gr gm clock seen es clock e h1 h2 he1 hE.born
     simp only at hk hv
     rw [hk,hv] at this
     exact this
   · have:=hstep.length_eq
     simp only [List.length_cons] at this
     show (leftA es M (seen.push e.born)).length<(leftA es M seen).length
     unfold leftA
     omega
end

end Go.Proofs.YtpmhjnhgpplmnaaGreatDoor.Sx
end

section
namespace Go.Proofs.YtpmhjnhgpplmnaaGreatDoor
open Go Sx
set_option maxRecDepth 8000

section
variable {w0 w w':World} {X:List Nat} {N N':List Res} {gd:Nat} {ps:List Nat} {m:DiskM}

theorem DOk.upd {p:DP} (hp:DOk m p) (s:Nat) (d:Bool) (a:Option Nat) (f:List Nat) {av:Int} {fa:Option Addr} {fn fc:Nat} {F:Res} (ha:∀k,a=some k→av=(k:Int)∧k≤9223372036854775807) (hf:FailsR f fa fn fc F):
   DOk { m with steps:=s,down:=d,arm:=a,fails:=f } { p with av:=av,fa:=fa,fn:=fn,fc:=fc,F:=F } :=
 ⟨hp.wf.upd s d a f,hp.files,ha,hf,hp.mapn,hp.isn,hp.maps,hp.iss⟩

theorem niv_cons (x:Nat) (l:List Nat):niv (x::l)=.int .i64 (x:Int)::niv l:=rfl

set_option maxHeartbeats 1000000 in
theorem step_spec (h:DiskIn w0 X w gd ps m N) (hb:m.steps<4611686018427387904):
   Calls Tryz.prog 178 #[.pointer (some ⟨gd,0,none⟩)] w fun e w'=>e=.returned (errV (stepM m).2)∧DiskIn w0 X w' gd ps (stepM m).1 N:=by
 obtain ⟨p,hps,hp,hS⟩:=h
 apply disk_meter_step_vc
 refine ⟨fun x w'=>x=decide (m.arm=some 0)∧w'=w,⟨_,DiskIn.cell hS (i:=2) (boolA _) rfl,fun ha=>⟨_,DiskIn.cell hS (i:=3) (intA _) rfl,?_,rfl⟩,fun ha=>⟨?_,rfl⟩⟩,?_⟩
 · obtain ⟨k,hk⟩:=Option.isSome_iff_exists.1 ha
   rw [(hp.arm k hk).1,hk]
   by_cases h0:k=0
   · subst h0;rfl
   · have:¬((k:Int)=0):=by omega
     simp [h0,this]
 · have:m.arm=none:=by simpa using ha
   rw [this];rfl
 rintro x w1 ⟨rfl,rfl⟩
 refine ⟨fun h0=>?_,fun h0=>?_⟩
 · have h0:m.arm=some 0:=by simpa using h0
   obtain ⟨w2,r2,h2⟩:=hS.stL (i:=0) (o:=1) (off:=1) (T:=4) (v:=.bool true) rfl (boolS _) rfl (by simp [dskL]) rfl
   refine ⟨w2,r2,?_,?_⟩
   · rw [stepM,if_pos h0];rfl
   · rw [stepM,if_pos h0]
     exact ⟨p,hps,hp.upd m.steps true m.arm m.fails hp.arm hp.fails,h2⟩
 have h0:¬m.arm=some 0:=by simpa using h0
 have w1s:IntKind.wrap .i64 ((m.steps:Int)+1)=((m.steps+1:Nat):Int):=by rw [wrap_i64 (by omega) (by omega)];omega
 obtain ⟨w3,r3,h3⟩:=hS.stL (i:=0) (o:=0) (off:=0) (T:=3) (v:=.int .i64 ((m.steps+1:Nat):Int)) rfl (intS _) rfl (by simp [dskL]) rfl
 obtain ⟨av',hav⟩:∃av',IntKind.wrap .i64 (p.av-1)=av':=⟨_,rfl⟩
 have ha':∀k:Nat,m.arm.map (fun x:Nat=>x-1)=some k→av'=(k:Int)∧k≤9223372036854775807:=by
   intro k hk
   obtain ⟨j,hj,rfl⟩:=Option.map_eq_some_iff.1 hk
   obtain ⟨e1,e2⟩:=hp.arm j hj
   have:j≠0:=fun e=>h0 (by rw [hj,e])
   rw [←hav,e1,wrap_i64 (by omega) (by omega)]
   omega
 have h3:St w0 X w3 (resD gd { m with steps:=m.steps+1 } p++DR p.FL N):=h3
 obtain ⟨w4,r4,h4⟩:=h3.stL (i:=0) (o:=3) (off:=3) (T:=3) (v:=.int .i64 av') rfl (intS _) rfl (by simp [dskL]) rfl
 have hsome:(m.arm.map (fun x:Nat=>x-1)).isSome=m.arm.isSome:=by cases m.arm<;>rfl
 have h4:St w0 X w4 (resD gd { m with steps:=m.steps+1,arm:=m.arm.map (fun x:Nat=>x-1) } { p with av:=av' } ++DR p.FL N):=by
   unfold resD dskL
   simp only [hsome]
   exact h4
 have C4:=fun {i v T} (hT:(isAgg T).run Tryz.prog w4=.ok false w4) hv=>DiskIn.cell h4 (i:=i) (v:=v) (T:=T) hT hv
 refine ⟨_,DiskIn.cell hS (i:=0) (intA _) rfl,w3,by rw [w1s];exact r3,_,DiskIn.cell h3 (i:=3) (intA _) rfl,w4,by show (Instr.storeAt _ _ (.int .i64 (IntKind.wrap .i64 (p.av-1)))).run _ _=_;rw [hav];exact r4,_,_,_,C4 (i:=4) (insA' _) rfl,fun hz=>?_,fun hz=>?_⟩
 · have hfn:m.fails=[]:=List.eq_nil_of_length_eq_zero (by have:=hp.fails.len;simp at hz;omega)
   have e:stepM m=({ m with steps:=m.steps+1,arm:=m.arm.map (fun x:Nat=>x-1) },none):=by rw [stepM,if_neg h0,hfn]
   rw [e]
   exact ⟨rfl, { p with av:=av' },hps,hp.upd (m.steps+1) m.down _ m.fails ha' hp.fails,h4⟩
 · have hfn:p.fn≠0:=by simpa using hz
   obtain ⟨gf,k,L,hfa,hF,hL⟩:=hp.fails.at_.resolve_left hfn
   have hlen:=hp.fails.len
   have hle:=hp.fails.le
   obtain ⟨x,r,hxr⟩:∃x r,m.fails=x::r:=by
     cases hq:m.fails with
     | nil=>rw [hq] at hlen;simp at hlen;omega
     | cons x r=>exact ⟨x,r,rfl⟩
   have hx63:x≤9223372036854775807:=hp.fails.bd x (by rw [hxr];simp)
   rw [hxr,niv_cons] at hL
   have hLk:L[k]?=some (.int .i64 (x:Int)):=by
     have:=congrArg (fun l=>l[0]?) hL
     simp only [List.getElem?_take,List.getElem?_drop,Nat.add_zero,List.getElem?_cons_zero] at this
     rwa [if_pos (by omega)] at this
   have hkl:k<L.length:=(List.getElem?_eq_some_iff.1 hLk).1
   have hLr:(L.drop (k+1)).take (p.fn-1)=niv r:=by
     have:=congrArg (List.drop 1) hL
     rw [List.drop_take,List.drop_drop] at this
     simpa using this
   have h4F:(resD gd { m with steps:=m.steps+1,arm:=m.arm.map (fun x:Nat=>x-1) } { p with av:=av' } ++DR p.FL N)[4]?=some (.arr gf 3 L):=by
     show some p.F=_
     rw [hF]
   have hld:(Instr.loadAt 3 (.pointer (some ⟨gf,k+Int.toNat (0:Int)*1,none⟩))).run Tryz.prog w4=.ok (.int .i64 (x:Int)) w4:=h4.ldL h4F (intA _) rfl hLk
   refine ⟨_,_,_,C4 (i:=4) (insA' _) rfl,gf,k,hfa,by omega,by show (0:Int)<((p.fn:Nat):Int);omega,_,hld,fun hx0=>?_,fun hx0=>?_⟩
   · have hx0:x=0:=by simp at hx0;omega
     subst hx0
     refine ⟨_,_,_,C4 (i:=4) (insA' _) rfl,by omega,by show (1:Int)≤((p.fn:Nat):Int);omega,by show ((p.fn:Nat):Int)≤((p.fc:Nat):Int);omega,fun a' hsub=>?_⟩
     obtain ⟨w5,r5,h5⟩:=h4.stL (i:=0) (o:=4) (off:=4) (T:=29) (v:=.slice a' (p.fn-1) (p.fc-1)) rfl (insS _) rfl (by simp [dskL]) rfl
     have e:stepM m=({ m with steps:=m.steps+1,arm:=m.arm.map (fun x:Nat=>x-1),fails:=r },some 2):=by rw [stepM,if_neg h0,hxr]
     rw [e]
     refine ⟨w5,r5,rfl, { p with av:=av',fa:=a',fn:=p.fn-1,fc:=p.fc-1 },hps,hp.upd (m.steps+1) m.down _ r ha' ⟨?_,by omega,?_,?_⟩,h5⟩
     · rw [hxr] at hlen;simp at hlen;omega
     · by_cases h1:p.fn-1=0
       · exact .inl h1
       · right
         refine ⟨gf,k+1,L,?_,hF,hLr⟩
         have hne:p.fc≠1:=by omega
         have h2:=hsub.2 hne
         show a'=_
         rw [h2]
         show p.fa.map _=_
         rw [hfa]
         simp [Addr.add]
     · exact fun y hy=>hp.fails.bd y (by rw [hxr];simp [hy])
   · obtain ⟨y,rfl⟩:∃y,x=y+1:=⟨x-1,by simp at hx0;omega⟩
     have wy:IntKind.wrap .i64 (((y+1:Nat):Int)-1)=(y:Int):=by rw [wrap_i64 (by omega) (by omega)];omega
     obtain ⟨w6,r6,h6⟩:=h4.stL (i:=4) (o:=k) (off:=k+Int.toNat (0:Int)*1) (T:=3) (v:=.int .i64 (y:Int)) h4F (intS _) rfl hkl rfl
     have e:stepM m=({ m with steps:=m.steps+1,arm:=m.arm.map (fun x:Nat=>x-1),fails:=y::r },none):=by rw [stepM,if_neg h0,hxr]
     rw [e]
     refine ⟨_,_,_,C4 (i:=4) (insA' _) rfl,gf,k,hfa,by omega,by show (0:Int)<((p.fn:Nat):Int);omega,_,hld,gf,k,hfa,by omega,by show (0:Int)<((p.fn:Nat):Int);omega,w6,by rw [wy];exact r6,rfl, { p with av:=av',F:=.arr gf 3 (L.set k (.int .i64 (y:Int))) },hps,hp.upd (m.steps+1) m.down _ (y::r) ha' ⟨?_,hle,?_,?_⟩,h6⟩
     · rw [hxr] at hlen;exact hlen
     · right
       refine ⟨gf,k,_,hfa,rfl,?_⟩
       rw [niv_cons,←hLr]
       have e1:(L.set k (.int .i64 (y:Int))).drop k=.int .i64 (y:Int)::L.drop (k+1):=by
         rw [List.drop_eq_getElem_cons (by simpa using hkl),List.getElem_set_self,List.drop_set_of_lt (by omega)]
       rw [e1]
       obtain ⟨q,hq⟩:∃q,p.fn=q+1:=⟨p.fn-1,by omega⟩
       rw [hq,List.take_succ_cons]
       rfl
     · intro z hz
       rcases List.mem_cons.1 hz with rfl | hz
       · omega
       · exact hp.fails.bd z (by rw [hxr];simp [hz])

end

end Go.Proofs.YtpmhjnhgpplmnaaGreatDoor
end

section
namespace Go.Proofs.YtpmhjnhgpplmnaaGreatDoor
open Go Sx
set_option maxRecDepth 8000

theorem sum_le_mul {B:Nat} :∀l:List Nat,(∀x∈l,x≤B)→l.sum≤l.length*B
 | [],_=>by simp
 | x::l,h=>by
   have h1:=sum_le_mul l fun y hy=>h y (by simp [hy])
   have h2:=h x (by simp)
   rw [List.sum_cons,List.length_cons,Nat.succ_mul]
   omega

section
variable {w0 w w':World} {X:List Nat} {N N':List Res} {gd:Nat} {ps:List Nat} {m:DiskM}

def lenE (fs:List FileM) (e:Ent):Nat:=(fileAt fs e.file).data.length
theorem lenE_le (hw:WFD m) (e:Ent):lenE m.files e≤1099511627776:=by
 unfold lenE fileAt
 by_cases hi:e.file<m.files.length
 · rw [List.getD,List.getElem?_eq_getElem hi]
   exact (hw.syn _ (List.getElem_mem hi)).2
 · rw [List.getD,List.getElem?_eq_none (by omega)]
   simp [file0]
theorem usedM_le (hw:WFD m):usedM m≤4503599627370496:=by
 have h1:=sum_le_mul (B:=1099511627776) (m.now.map (lenE m.files)) fun x hx=>by
   obtain ⟨e,_,rfl⟩:=List.mem_map.1 hx
   exact lenE_le hw e
 rw [List.length_map] at h1
 have h2:=hw.okNow.len
 have h3:m.now.length*1099511627776≤4096*1099511627776:=Nat.mul_le_mul_right _ h2
 show (m.now.map (lenE m.files)).sum≤_
 omega

theorem used_spec (h:DiskIn w0 X w gd ps m N):
   Calls Tryz.prog 228 #[.pointer (some ⟨gd,0,none⟩)] w fun e w'=>e=.returned (.int .i64 (usedM m:Int))∧Chg [] w w':=by
 obtain ⟨p,hps,hp,hS⟩:=h
 have hw:=hp.wf
 apply disk_Disk_Used_vc
 have hg:w.heap[p.gn]?=some (.map p.esn p.ckn):=hS.holds 1 _ rfl
 have hit:St w [] (w.alloc (.mapIter (some p.gn) p.ckn #[] p.ckn)) [.blk w.heap.size (.mapIter (some p.gn) p.ckn #[] p.ckn)]:=(St.start w).add (Chg.alloc _ _) (heap_alloc_new w _) (by simp [Res.fp])
 obtain ⟨gr,hgr⟩:∃gr,w.heap.size=gr:=⟨_,rfl⟩
 rw [hgr] at hit
 refine ⟨_,DiskIn.cell hS (i:=6) (dirA _) rfl,_,_,run_range_map w 149 9 162 p.gn p.esn p.ckn dirT hg,fun x w'=>∃(seen:Array Nat) (out:Dir),x=((out.map (lenE m.files)).sum:Int)∧(out++(leftA p.esn p.Mn seen).map (·.2)).Perm p.Mn∧St w [] w' [.blk gr (.mapIter (some p.gn) p.ckn seen p.ckn)],
   fun _ w'=>muR p.gn gr w',⟨#[],[],rfl,by rw [leftA_all hp.mapn,List.nil_append],hit⟩,?_⟩
 rw [hgr]
 rintro x w2 ⟨seen,out,rfl,hperm,h2⟩
 have hS2:=hS.same h2.chg
 have hr2:w2.heap[gr]?=some (.mapIter (some p.gn) p.ckn seen p.ckn):=h2.holds 0 _ rfl
 have hg2:w2.heap[p.gn]?=some (.map p.esn p.ckn):=hS2.holds 1 _ rfl
 rcases range_step (P:=Tryz.prog) hp.mapn hr2 hg2 with ⟨hz,hrun⟩ | ⟨e,r,w3,hw3,hrun,hrM,hent,hleft,hlt⟩
 · refine ⟨false,[],w2,hrun,fun h=>(by cases h),fun _=>⟨?_,h2.chg⟩⟩
   rw [hz,List.map_nil,List.append_nil] at hperm
   have hsum:(out.map (lenE m.files)).sum=usedM m:=((hperm.trans hp.isn.perm).map (lenE m.files)).sum_nat
   rw [hsum]
 · refine ⟨true,_,_,hrun,fun _=>?_,fun h=>(by cases h)⟩
   have h3:St w [] w3 [.blk gr (.mapIter (some p.gn) p.ckn seen p.ckn)]:=by
     rcases hw3 with rfl | rfl
     · exact h2
     · exact h2.drew
   have h4:=St.putBlk h3 (i:=0) (o':=.mapIter (some p.gn) p.ckn (seen.push e.born) p.ckn) rfl
   have h4:St w [] (w3.putObj gr (.mapIter (some p.gn) p.ckn (seen.push e.born) p.ckn)) [.blk gr (.mapIter (some p.gn) p.ckn (seen.push e.born) p.ckn)]:=h4
   have hS4:=hS.same h4.chg
   have hr4:=h4.holds 0 _ rfl
   have hg4:(w3.putObj gr (.mapIter (some p.gn) p.ckn (seen.push e.born) p.ckn)).heap[p.gn]?=some (.map p.esn p.ckn):=hS4.holds 1 _ rfl
   have hrn:=hp.isn.perm.mem_iff.1 hrM
   obtain ⟨f,hf,hpg,hfm⟩:=hp.file (hw.okNow.ent r hrn).1
   have hlr:lenE m.files r=f.data.length:=by rw [lenE,hfm]
   have hp2:(out++ [r]++(leftA p.esn p.Mn (seen.push e.born)).map (·.2)).Perm p.Mn:=by
     refine List.Perm.trans ?_ hperm
     rw [List.append_assoc]
     exact List.Perm.append_left out hleft.symm
   have hle:((out++ [r]).map (lenE m.files)).sum≤4503599627370496:=by
     have h1:=sum_le_mul (B:=1099511627776) ((out++ [r]).map (lenE m.files)) fun x hx=>by
       obtain ⟨e,_,rfl⟩:=List.mem_map.1 hx
       exact lenE_le hw e
     rw [List.length_map] at h1
     have h2:(out++ [r]).length≤4096:=by
       have:=hp2.length_eq
       have h5:=hp.isn.perm.length_eq
       have h6:=hw.okNow.len
       rw [List.length_append] at this
       omega
     have h3:(out++ [r]).length*1099511627776≤4096*1099511627776:=Nat.mul_le_mul_right _ h2
     omega
   have hsumr:((out++ [r]).map (lenE m.files)).sum=(out.map (lenE m.files)).sum+f.data.length:=by rw [List.map_append,List.sum_append,List.map_singleton,List.sum_singleton,hlr]
   have hent':=hent _ hr4 hg4
   have hvl:vlE p.ps r=.pointer (some ⟨f.g,0,none⟩):=by show Value.pointer (some ⟨p.ps.getD r.file 0,0,none⟩)=_;rw [hpg]
   rw [hvl] at hent'
   refine ⟨_,f.g,0,_,hent',_,_,_,(St.ldFile hS4 hf).1,⟨seen.push e.born,out++ [r],?_,hp2,h4⟩,?_⟩
   · rw [wrap_i64 (by omega) (by omega),hsumr];omega
   · show muR p.gn gr _<muR p.gn gr _
     rw [muR_eq hg4 hr4,muR_eq hg2 hr2,leftA_size hp.mapn,leftA_size hp.mapn]
     exact hlt

theorem ch_ext {ps:List Nat} {cs:List ChM} {k g:Nat} (hk:k=ps.length) (h:∀c∈cs,∀i,c.made=some i→i<k):cs.flatMap (chC (ps++ [g]))=cs.flatMap (chC ps):=by
 induction cs with
 | nil=>rfl
 | cons c cs ih=>
   rw [List.flatMap_cons,List.flatMap_cons,ih fun c' hc'=>h c' (by simp [hc'])]
   congr 1
   unfold chC
   cases hm:c.made with
   | none=>rfl
   | some i=>
     have hi:=h c (by simp) i hm
     have:(ps++ [g]).getD i 0=ps.getD i 0:=by simp [List.getD,List.getElem?_append_left (show i<ps.length by omega)]
     simp only [ptrV,this]
theorem ptr_ext {ps:List Nat} {i g:Nat} (hi:i<ps.length):ptrV (ps++ [g]) i=ptrV ps i:=by
 have:(ps++ [g]).getD i 0=ps.getD i 0:=by simp [List.getD,List.getElem?_append_left hi]
 simp only [ptrV,this]
theorem ptr_new (ps:List Nat) (g:Nat):ptrV (ps++ [g]) ps.length=.pointer (some ⟨g,0,none⟩):=by simp [ptrV,List.getD]

theorem DOk.psl {p:DP} (hp:DOk m p):p.ps.length=m.files.length:=by have:=congrArg List.length hp.files;simpa [DP.ps] using this

theorem WFD.addFile (h:WFD m) {f:FileM} (hf:f.syn≤f.data.length∧f.data.length≤1099511627776):WFD { m with files:=m.files++ [f] } :=
 ⟨h.now,fun k=>(h.dirs k).mono (by simp),fun c hc i hi=>by have:=h.made c hc i hi;simp;omega,fun g hg=>by
   rcases List.mem_append.1 hg with hg | hg
   · exact h.syn g hg
   · simp at hg;rw [hg];exact hf,h.size⟩
theorem DOk.addFile {p:DP} (hp:DOk m p) (f:FR) (hf:f.syn≤f.data.length∧f.data.length≤1099511627776):DOk { m with files:=m.files++ [f.m] } { p with FL:=p.FL++ [f] } :=by
 have hl:=hp.psl
 have hps:({ p with FL:=p.FL++ [f] } :DP).ps=p.ps++ [f.g]:=by simp [DP.ps]
 refine ⟨hp.wf.addFile hf,by simp [hp.files],hp.arm,hp.fails,?_,hp.isn,?_,hp.iss⟩
 · rw [hps]
   refine MapE.congr hp.mapn fun r hr=>?_
   have:=(hp.wf.okNow.ent r (hp.isn.perm.mem_iff.1 hr)).1
   exact (ptr_ext (by omega)).symm
 · rw [hps]
   refine MapE.congr hp.maps fun r hr=>?_
   have:=(hp.wf.okSyn.ent r (hp.iss.perm.mem_iff.1 hr)).1
   exact (ptr_ext (by omega)).symm
theorem St.addFile {p:DP} (hp:DOk m p) {f:FR} (h:St w0 X w ((resD gd m p++DR p.FL N)++ [f.blk]++ [f.row])):St w0 X w (resD gd { m with files:=m.files++ [f.m] } { p with FL:=p.FL++ [f] } ++DR (p.FL++ [f]) N):=by
 have hps:({ p with FL:=p.FL++ [f] } :DP).ps=p.ps++ [f.g]:=by simp [DP.ps]
 have e:resD gd { m with files:=m.files++ [f.m] } { p with FL:=p.FL++ [f] } =resD gd m p:=by
   unfold resD
   rw [hps]
   have:=ch_ext (g:=f.g) hp.psl.symm hp.wf.made
   simp only [this]
   rfl
 rw [e]
 refine h.perm ?_
 have h1:=perm_DR (FL:=p.FL++ [f]) (i:=p.FL.length) (f:=f) (by simp) (resD gd m p) N
 have h2:(p.FL++ [f]).eraseIdx p.FL.length=p.FL:=by simp [List.eraseIdx_append_of_length_le]
 rw [h2] at h1
 refine List.Perm.trans ?_ h1.symm
 rw [List.append_assoc]
 exact List.perm_append_comm

theorem fileZ (w:World):(Instr.build 169 #[]).run Tryz.prog w=.ok (.agg #[.slice none 0 0,.int .i64 0]) w:=by
 apply run_build
 kernel_rfl
theorem chT:ElemT Tryz.prog 150 164 3 40 (.agg #[.pointer none,.string ByteArray.empty,.string ByteArray.empty]):=⟨by kernel_rfl,⟨Tryz.t164,by kernel_rfl,by kernel_rfl,by kernel_rfl,by kernel_rfl⟩,rfl,by decide⟩
theorem built_ch:Tryz.prog.built 164=fun parts=>Instr.fill (fun i=>(#[(0,1),(1,1),(2,1)]:Array (Nat×Nat))[i]?) #[.pointer none,.string ⟨#[]⟩,.string ⟨#[]⟩] parts:=by kernel_rfl
theorem ch_build02 (g:Nat) (n:Nm) (w:World):(Instr.build 164 #[(0,.pointer (some ⟨g,0,none⟩)),(2,strV n)]).run Tryz.prog w=.ok (.agg #[.pointer (some ⟨g,0,none⟩),.string ⟨#[]⟩,strV n]) w:=by
 apply run_build
 rw [built_ch]
 show Instr.fill _ _ [(0,_),(2,strV n)]=_
 rw [fill_step (off:=0) (sz:=1) rfl rfl (by simp),fill_step (off:=2) (sz:=1) rfl rfl (by simp [Value.cells,strV])]
 rfl
theorem ch_build12 (a b:Nm) (w:World):(Instr.build 164 #[(1,strV a),(2,strV b)]).run Tryz.prog w=.ok (.agg #[.pointer none,strV a,strV b]) w:=by
 apply run_build
 rw [built_ch]
 show Instr.fill _ _ [(1,strV a),(2,strV b)]=_
 rw [fill_step (off:=1) (sz:=1) rfl rfl (by simp),fill_step (off:=2) (sz:=1) rfl rfl (by simp [Value.cells,strV])]
 rfl
theorem ch_build1 (a:Nm) (w:World):(Instr.build 164 #[(1,strV a)]).run Tryz.prog w=.ok (.agg #[.pointer none,strV a,.string ⟨#[]⟩]) w:=by
 apply run_build
 rw [built_ch]
 show Instr.fill _ _ [(1,strV a)]=_
 rw [fill_step (off:=1) (sz:=1) rfl rfl (by simp)]
 rfl

theorem stepM_same (m:DiskM):(stepM m).1.files=m.files∧(stepM m).1.now=m.now∧(stepM m).1.chs=m.chs∧(stepM m).1.syn=m.syn∧(stepM m).1.size=m.size:=by
 obtain ⟨s,d,a,f,e⟩:=stepM_cases m
 rw [e];exact ⟨rfl,rfl,rfl,rfl,rfl⟩

set_option maxHeartbeats 1000000 in
theorem create_spec (n:Nm) (h:DiskIn w0 X w gd ps m N) (hb:m.steps<4611686018427387904) (hc:m.chs.length<1000000000):
   Calls Tryz.prog 144 #[.pointer (some ⟨gd,0,none⟩),strV n] w fun e w'=>e=.returned (errV (createM m n).2)∧∃ps',DiskIn w0 X w' gd ps' (createM m n).1 N:=by
 obtain ⟨mI,hI⟩:=eI
 apply disk_Disk_Create_vc
 obtain ⟨g,w1,r1,h1⟩:=(St.start w).lit strT [strV n] (by simp [Value.oneCell',strV]) (by simp)
 have hD1:=h.same h1.chg
 refine ⟨_,_,_,w1,r1,(ready_spec _ _ _ [n] hD1 (h1.rd (i:=0) rfl) (by simp)).mono ?_⟩
 rintro e w2 ⟨rfl,rfl⟩
 obtain ⟨p,hps,hp,hS⟩:=hD1
 have hw:=hp.wf
 refine ⟨_,rfl,_,neqS_nil hI _ _ _,fun hne=>?_,fun hok=>?_⟩
 · obtain ⟨e,he⟩:=Option.isSome_iff_exists.1 hne
   have:createM m n=(m,some e):=by unfold createM;rw [he]
   rw [this,he]
   exact ⟨rfl,ps,p,hps,hp,hS⟩
 have hrn:readyM m [n]=none:=by simpa using hok
 have hgood:goodN n=true:=by
   unfold readyM at hrn
   cases hg:goodN n with
   | true=>rfl
   | false=>simp [hg] at hrn;split at hrn<;>cases hrn
 have hcr:createM m n=if (findD m.now n).isSome then (m,some 4) else if 4096≤m.now.length then (m,some 19) else stepsM m fun m=>createF m n:=by unfold createM;rw [hrn]
 have hlk:=look_spec hp (w:=w2) (hS.holds 1 _ rfl) n
 refine ⟨_,DiskIn.cell hS (i:=6) (dirA _) rfl,_,_,w2,hlk,fun hyes=>?_,fun hno=>?_⟩
 · rw [hcr,if_pos hyes]
   exact ⟨rfl,ps,p,hps,hp,hS⟩
 have hno':¬(findD m.now n).isSome=true:=by rw [hno];simp
 rw [if_neg hno'] at hcr
 have hfn:findD m.now n=none:=by simpa using hno
 refine ⟨_,DiskIn.cell hS (i:=6) (dirA _) rfl,_,w2,hp.mapn.lenOf (P:=Tryz.prog) dirT (hS.holds 1 _ rfl) _,fun hge=>?_,fun hlt=>?_⟩
 · have:4096≤m.now.length:=by have:=hp.isn.perm.length_eq;simp at hge;omega
   rw [hcr,if_pos this]
   exact ⟨rfl,ps,p,hps,hp,hS⟩
 have hlen:¬4096≤m.now.length:=by have:=hp.isn.perm.length_eq;simp at hlt;omega
 rw [if_neg hlen] at hcr
 refine (step_spec ⟨p,hps,hp,hS⟩ hb).mono ?_
 rintro e w5 ⟨rfl,hD5⟩
 refine ⟨_,rfl,_,neqS_nil hI _ _ _,fun hne=>?_,fun hok=>?_⟩
 · obtain ⟨e,he⟩:=Option.isSome_iff_exists.1 hne
   rw [hcr]
   unfold stepsM
   rw [he]
   exact ⟨rfl,ps,hD5⟩
 have hst:(stepM m).2=none:=by simpa using hok
 have hres:createM m n=(createF (stepM m).1 n,none):=by rw [hcr];unfold stepsM;rw [hst]
 rw [hres]
 obtain ⟨m1,hm1⟩:∃m1,(stepM m).1=m1:=⟨_,rfl⟩
 obtain ⟨e1,e2,e3,e4,_⟩:=stepM_same m
 rw [hm1] at hD5 e1 e2 e3 e4 ⊢
 clear hS hp hps hlk hlt
 clear p
 obtain ⟨p,hps,hp,hS⟩:=hD5
 obtain ⟨g,w6,r6,h6⟩:=hS.box (P:=Tryz.prog) 169 (.agg #[.slice none 0 0,.int .i64 0])
 have h6':=h6.addNil 5 1
 let f:FR:=⟨g,none,0,[],0⟩
 have h6':St w0 X w6 ((resD gd m1 p++DR p.FL N)++ [f.blk]++ [f.row]):=h6'
 have h7:=St.addFile hp h6'
 have hp7:=hp.addFile f ⟨Nat.le_refl _,by simp [f]⟩
 have hfz:f.m=file0:=rfl
 rw [hfz] at h7 hp7
 obtain ⟨m2,hm2⟩:∃m2,({ m1 with files:=m1.files++ [file0] } :DiskM)=m2:=⟨_,rfl⟩
 obtain ⟨p2,hp2⟩:∃p2,({ p with FL:=p.FL++ [f] } :DP)=p2:=⟨_,rfl⟩
 have hps2:p2.ps=ps++ [g]:=by rw [←hp2,←hps];simp [DP.ps,f]
 have hpsl:ps.length=m1.files.length:=by rw [←hps];exact hp.psl
 have hFL:p.FL++ [f]=p2.FL:=by rw [←hp2]
 rw [hm2,hp2] at hp7
 rw [hm2,hp2,hFL] at h7
 have hm2n:m2.now=m1.now:=by rw [←hm2]
 have hm2c:m2.chs=m1.chs:=by rw [←hm2]
 have hm2f:m2.files=m1.files++ [file0]:=by rw [←hm2]
 have hgn:w6.heap[p2.gn]?=some (.map p2.esn p2.ckn):=h7.holds 1 _ rfl
 obtain ⟨es',ck',rU,hE'⟩:=hp7.mapn.updateK (P:=Tryz.prog) (keyD p2.Mn) dirT hgn (⟨n,m1.files.length⟩:Ent) trivial
 have hval:vlE p2.ps (⟨n,m1.files.length⟩:Ent)=.pointer (some ⟨g,0,none⟩):=by
   show ptrV p2.ps m1.files.length=_
   rw [hps2,←hpsl]
   exact ptr_new ps g
 rw [hval] at rU
 have h8:=St.putBlk h7 (i:=1) (o':=.map es' ck') rfl
 have h8:St w0 X (w6.putObj p2.gn (.map es' ck')) (resD gd m2 { p2 with esn:=es',ckn:=ck' } ++DR p2.FL N):=h8
 have hl8:m2.chs.length<1000000000:=by rw [hm2c,e3];exact hc
 obtain ⟨g9,w9,vb,vd,w10,r9,r10,h10,_⟩:=h8.pushA (i:=3) (ty:=150) chT rfl (chC p2.ps (chMade m1 n)) (chC_len _ _) (by decide) (chC_one _ _) (by omega) (by simp only [maxLen];omega)
 have hcc:(chC p2.ps (chMade m1 n)).toArray= #[.pointer (some ⟨g,0,none⟩),.string ⟨#[]⟩,strV n]:=by
   show ([ptrV p2.ps m1.files.length,strV [],strV n]:List Value).toArray=_
   have:ptrV p2.ps m1.files.length=.pointer (some ⟨g,0,none⟩):=hval
   rw [this];rfl
 rw [hcc] at r9
 obtain ⟨w11,r11,h11⟩:=h10.stL (i:=0) (o:=8) (off:=8) (T:=150) (v:=.slice vb (m2.chs.length+1) vd) rfl (chsS _) rfl (by simp [dskL]) rfl
 have hfin:createF m1 n= { doCh m2 (chMade m1 n) with files:=m2.files } :=by
   rw [←hm2];rfl
 refine ⟨_,fileZ w5,g,w6,r6,_,DiskIn.cell h7 (i:=6) (dirA _) rfl,_,rU,_,_,_,DiskIn.cell h8 (i:=8) (chsA _) rfl,_,ch_build02 g n _,_,_,_,w9,r9,vb,_,vd,w10,r10,w11,r11,rfl,p2.ps, { p2 with esn:=es',ckn:=ck',ca:=vb,cc:=vd,Mn:=updM Ent.name p2.Mn ⟨n,m1.files.length⟩ },rfl,?_,?_⟩
 · rw [hfin]
   have hno1:findD m1.now n=none:=by rw [e2];exact hfn
   have hmk:mkD m2.now (chMade m1 n)=insA Ent.name m2.now ⟨n,m1.files.length⟩:=rfl
   refine ⟨hp7.wf.snoc (Nat.le_refl _) hp7.wf.syn (fun i hi=>?_) ?_,hp7.files,hp7.arm,hp7.fails,hE',hp7.isn.upd _,hp7.maps,hp7.iss⟩
   · have:i=m1.files.length:=by
       have:some m1.files.length=some i:=hi
       exact (Option.some.inj this).symm
     rw [hm2f,this];simp
   · rw [hmk]
     refine hp7.wf.okNow.ins (by rw [hm2f];simp) hgood (.inl ?_) fun x hx _=>?_
     · rw [hm2n,e2];omega
     · rw [hm2n] at hx
       have:=(hp.wf.okNow.ent x hx).1
       omega
 · rw [hfin]
   show St w0 X w11 (resD gd { doCh m2 (chMade m1 n) with files:=m2.files } { p2 with esn:=es',ckn:=ck',ca:=vb,cc:=vd,Mn:=updM Ent.name p2.Mn ⟨n,m1.files.length⟩ } ++DR p2.FL N)
   have el:(m2.chs++ [chMade m1 n]).length=m2.chs.length+1:=by simp
   have ef:(m2.chs++ [chMade m1 n]).flatMap (chC p2.ps)=m2.chs.flatMap (chC p2.ps)++chC p2.ps (chMade m1 n):=by simp
   unfold resD dskL doCh
   show St w0 X w11 (.arr gd 152 _:: .blk _ _:: .blk _ _:: .row _ _ (.slice vb (m2.chs++ [chMade m1 n]).length vd) (m2.chs++ [chMade m1 n]).length ((m2.chs++ [chMade m1 n]).flatMap (chC p2.ps))::_::_)
   simp only [el,ef]
   exact h11

end

end Go.Proofs.YtpmhjnhgpplmnaaGreatDoor
end

section
namespace Go.Proofs.YtpmhjnhgpplmnaaGreatDoor
open Go Sx
set_option maxRecDepth 8000

section
variable {w0 w w':World} {X:List Nat} {N N':List Res} {gd:Nat} {ps:List Nat} {m:DiskM}

theorem fileAt_setF {fs:List FileM} {i:Nat} {f:FileM→FileM} (hi:i<fs.length):fileAt (setF fs i f) i=f (fileAt fs i):=by
 simp [fileAt,setF,List.getD,hi]
theorem setF_len (fs:List FileM) (i:Nat) (f:FileM→FileM):(setF fs i f).length=fs.length:=by simp [setF]
theorem setF_same {fs:List FileM} {i:Nat} {f:FileM→FileM} (h:f (fileAt fs i)=fileAt fs i):setF fs i f=fs:=by
 unfold setF
 rw [h]
 by_cases hi:i<fs.length
 · have:fileAt fs i=fs[i]:=by simp [fileAt,List.getD,hi]
   rw [this,List.set_getElem_self]
 · rw [List.set_eq_of_length_le (by omega)]
theorem setF_setF {fs:List FileM} {i:Nat} {f g:FileM→FileM} (hi:i<fs.length):setF (setF fs i f) i g=setF fs i fun x=>g (f x):=by
 unfold setF
 have:fileAt (fs.set i (f (fileAt fs i))) i=f (fileAt fs i):=by simp [fileAt,List.getD,hi]
 rw [this,List.set_set]

theorem WFD.files (h:WFD m) {fs:List FileM} (hl:fs.length=m.files.length) (hs:∀f∈fs,f.syn≤f.data.length∧f.data.length≤1099511627776):WFD { m with files:=fs } :=
 ⟨h.now,fun k=>by show OkDir fs.length _;rw [hl];exact h.dirs k,fun c hc i hi=>by show i<fs.length;rw [hl];exact h.made c hc i hi,hs,h.size⟩
theorem syn_setF (h:∀f∈m.files,f.syn≤f.data.length∧f.data.length≤1099511627776) {i:Nat} {g:FileM} (hg:g.syn≤g.data.length∧g.data.length≤1099511627776):∀f∈setF m.files i (fun _=>g),f.syn≤f.data.length∧f.data.length≤1099511627776:=by
 intro f hf
 rcases List.mem_or_eq_of_mem_set hf with h1 | h1
 · exact h f h1
 · rw [h1];exact hg

theorem DOk.updFile {p:DP} (hp:DOk m p) {i:Nat} {f f':FR} (hf:p.FL[i]?=some f) (hg:f'.g=f.g) (hs:f'.syn≤f'.data.length∧f'.data.length≤1099511627776):DOk { m with files:=setF m.files i fun _=>f'.m } { p with FL:=p.FL.set i f' } ∧({ p with FL:=p.FL.set i f' } :DP).ps=p.ps:=by
 have hps:({ p with FL:=p.FL.set i f' } :DP).ps=p.ps:=by
   unfold DP.ps
   rw [List.map_set,hg]
   have:(p.FL.map FR.g)[i]?=some f.g:=by rw [List.getElem?_map,hf];rfl
   obtain ⟨h1,h2⟩:=List.getElem?_eq_some_iff.1 this
   rw [←h2,List.set_getElem_self]
 refine ⟨⟨hp.wf.files (setF_len _ _ _) (syn_setF hp.wf.syn hs),?_,hp.arm,hp.fails,?_,hp.isn,?_,hp.iss⟩,hps⟩
 · show (p.FL.set i f').map FR.m=setF m.files i fun _=>f'.m
   rw [List.map_set,hp.files];rfl
 · rw [hps];exact hp.mapn
 · rw [hps];exact hp.maps

theorem St.updFile {p:DP} {i:Nat} {f f':FR} (hf:p.FL[i]?=some f) (hps:({ p with FL:=p.FL.set i f' } :DP).ps=p.ps) (h:St w0 X w' (f'.blk::f'.row::(resD gd m p++DR (p.FL.eraseIdx i) N))):St w0 X w' (resD gd { m with files:=setF m.files i fun _=>f'.m } { p with FL:=p.FL.set i f' } ++DR (p.FL.set i f') N):=by
 have hl:=(List.getElem?_eq_some_iff.1 hf).1
 have e:resD gd { m with files:=setF m.files i fun _=>f'.m } { p with FL:=p.FL.set i f' } =resD gd m p:=by
   unfold resD
   rw [hps]
   rfl
 rw [e]
 have h1:=perm_DR (FL:=p.FL.set i f') (i:=i) (f:=f') (by simp [hl]) (resD gd m p) N
 rw [eraseIdx_set] at h1
 exact h.perm h1.symm

theorem le_sum_of_mem:∀(l:List Nat) (x:Nat),x∈l→x≤l.sum
 | [],x,h=>by simp at h
 | y::l,x,h=>by
   rw [List.sum_cons]
   rcases List.mem_cons.1 h with rfl | h
   · omega
   · have:=le_sum_of_mem l x h;omega
theorem fits_le:∀(qs:List (List UInt8)) (r:Int),fits r qs=true→qs=[]∨(qs.flatten.length:Int)≤r
 | [],r,_=>.inl rfl
 | p::qs,r,h=>by
   simp only [fits,Bool.and_eq_true,decide_eq_true_eq] at h
   right
   rcases fits_le qs _ h.2 with rfl | h2
   · simpa using h.1
   · rw [List.flatten_cons,List.length_append];omega

theorem appendF_files (m:DiskM) (i:Nat) (qs:List (List UInt8)):(appendF m i qs).files=setF m.files i fun f=>⟨f.data++qs.flatten,f.syn⟩:=rfl

set_option maxHeartbeats 1000000 in
theorem append_spec (n:Nm) (a:Option Addr) (k c:Nat) (vs:List Value) (qs:List (List UInt8)) (h:DiskIn w0 X w gd ps m N) (hq:∀ {w' ps' m'},DiskIn w0 X w' gd ps' m' N→Rd w' a k c 1 vs∧Row2 w' vs qs) (hb:m.steps<4611686018427387904) (hk:k≤1000000000):
   Calls Tryz.prog 145 #[.pointer (some ⟨gd,0,none⟩),strV n,.slice a k c] w fun e w'=>e=.returned (errV (appendM m n qs).2)∧DiskIn w0 X w' gd ps (appendM m n qs).1 N:=by
 obtain ⟨mI,hI⟩:=eI
 have hw:=h.wf
 have hqk:qs.length=k:=by
   obtain ⟨h1,h2⟩:=hq h
   have:=h1.len
   have:=h2.len
   omega
 apply disk_Disk_Append_vc
 refine (found_spec n h).mono ?_
 rintro e w1 ⟨rfl,c1⟩
 have hD1:=h.same c1
 refine ⟨_,_,rfl,_,neqS_nil hI _ _ _,fun hne=>?_,fun hok=>?_⟩
 · obtain ⟨e,he⟩:=Option.isSome_iff_exists.1 hne
   have:appendM m n qs=(m,some e):=by unfold appendM;rw [he]
   rw [this,he]
   exact ⟨rfl,hD1⟩
 have hfn:foundE m n=none:=by simpa using hok
 rw [if_pos hfn]
 obtain ⟨hil,e0,he0,hen,hef,_⟩:=foundI_lt hw hfn
 have hap:appendM m n qs=if fits (m.size-usedM m) qs then stepsM m fun m'=>appendF m' (foundI m n) qs else (m,some 3):=by simp only [appendM,hfn]
 have hsz:=hw.size
 have hus:=usedM_le hw
 refine ⟨fun w'=>DiskIn w0 X w' gd ps m N,hD1.same (Chg.drew [] w1),m.size,fun w' h'=>?_,(used_spec (hD1.same (Chg.drew [] w1))).mono ?_⟩
 · obtain ⟨p,_,_,hS⟩:=h'
   exact DiskIn.cell hS (i:=5) (intA _) rfl
 rintro e w2 ⟨rfl,c2⟩
 have hD2:=(hD1.same (Chg.drew [] w1)).same c2
 have wr:IntKind.wrap .i64 (m.size- (usedM m:Int))=m.size- (usedM m:Int):=wrap_i64 (by omega) (by omega)
 refine ⟨_,rfl,fun w'=>DiskIn w0 X w' gd ps m N,fun _ h=>h,hD2,?_⟩
 rw [wr]
 refine ⟨fun x y w'=>∃i:Nat,y=(i:Int)∧i≤k∧x≤67108864∧ -9007199254740992≤x∧fits (m.size-usedM m) qs=fits x (qs.drop i)∧w'=w2,fun _ y _=>k-y.toNat,⟨0,rfl,by omega,by omega,by omega,by simp,rfl⟩,?_⟩
 rintro x y w3 ⟨i,rfl,hi,hx1,hx2,hfit,rfl⟩
 obtain ⟨hr,h2⟩:=hq hD2
 refine ⟨fun hlt=>?_,fun hge=>?_⟩
 · have hi':i<k:=by simp at hlt;omega
   obtain ⟨b,o,a',n',c',ha,hv,hrd,q⟩:=ixS hr.cells h2 (i:=i) (by omega)
   have hln:=hrd.lenB
   have hdr:qs.drop i=qs.getD i []::qs.drop (i+1):=by rw [List.drop_eq_getElem_cons (by omega)];simp [List.getD,show i<qs.length by omega]
   rw [hdr,fits,hln] at hfit
   refine ⟨b,o,ha,by omega,by omega,_,_,_,q w3 hr.cells,fun hgt=>?_,fun hle=>?_⟩
   · have:¬((n':Int)≤x):=by simp at hgt;omega
     rw [hap,hfit]
     simp only [this,decide_false,Bool.false_and,Bool.false_eq_true,if_false]
     exact ⟨rfl,hD2⟩
   · have hle:(n':Int)≤x:=by simp at hle;omega
     refine ⟨⟨i+1,wrap_succ hi' (by omega),by omega,?_,?_,?_,rfl⟩,mu_succ hi' (by omega)⟩
     · rw [wrap_i64 (by omega) (by omega)];omega
     · rw [wrap_i64 (by omega) (by omega)];omega
     · rw [wrap_i64 (by omega) (by omega),hfit,decide_eq_true hle,Bool.true_and]
 have hi':i=k:=by simp at hge;omega
 have hft:fits (m.size-usedM m) qs=true:=by rw [hfit,hi',List.drop_of_length_le (by omega)];rfl
 rw [hft,if_pos rfl] at hap
 refine (step_spec hD2 hb).mono ?_
 rintro e w4 ⟨rfl,hD4⟩
 refine ⟨_,rfl,_,neqS_nil hI _ _ _,fun hne=>?_,fun hok=>?_⟩
 · obtain ⟨e,he⟩:=Option.isSome_iff_exists.1 hne
   rw [hap]
   unfold stepsM
   rw [he]
   exact ⟨rfl,hD4⟩
 have hst:(stepM m).2=none:=by simpa using hok
 have hres:appendM m n qs=(appendF (stepM m).1 (foundI m n) qs,none):=by rw [hap];unfold stepsM;rw [hst]
 rw [hres]
 obtain ⟨m1,hm1⟩:∃m1,(stepM m).1=m1:=⟨_,rfl⟩
 obtain ⟨e1,e2,e3,e4,_⟩:=stepM_same m
 rw [hm1] at hD4 e1 e2 e3 e4 ⊢
 obtain ⟨j,hj⟩:∃j,foundI m n=j:=⟨_,rfl⟩
 rw [hj] at hil hef ⊢
 -- how long the file may grow
 have hbound:∀t,(fileAt m1.files j).data.length+(qs.take t).flatten.length≤1099511627776:=by
   intro t
   have hdl:=(hw.syn (fileAt m.files j) (by simp [fileAt,List.getD,hil])).2
   rcases fits_le qs _ hft with rfl | hle
   · rw [e1];simpa using hdl
   · have h1:(fileAt m.files j).data.length≤usedM m:=le_sum_of_mem _ _ (List.mem_map.2 ⟨e0,he0,by rw [hef]⟩)
     have h2:=flat_take_le qs t
     rw [e1];omega
 have happ0:appendF m1 j ([]:List (List UInt8))=m1:=by
   unfold appendF
   rw [setF_same (by simp)]
 refine ⟨fun y w'=>∃i:Nat,y=(i:Int)∧i≤k∧DiskIn w0 X w' gd ps (appendF m1 j (qs.take i)) N,fun y _=>k-y.toNat,⟨0,rfl,by omega,by rw [List.take_zero,happ0];exact hD4⟩,?_⟩
 rintro y w5 ⟨i,rfl,hi,hD5⟩
 refine ⟨fun hlt=>?_,fun hge=>?_⟩
 · have hi':i<k:=by simp at hlt;omega
   obtain ⟨hr,h2⟩:=hq hD5
   obtain ⟨b,o,a',n',c',ha,hv,hrd,q⟩:=ixS hr.cells h2 (i:=i) (by omega)
   have hln:=hrd.lenB
   obtain ⟨p,hps,hp,hS⟩:=hD5
   have hjl:j<(appendF m1 j (qs.take i)).files.length:=by rw [appendF_files,setF_len,e1];exact hil
   obtain ⟨f,hf,hpg,hfm⟩:=hp.file hjl
   have hfm2:fileAt (appendF m1 j (qs.take i)).files j=⟨(fileAt m1.files j).data++(qs.take i).flatten,(fileAt m1.files j).syn⟩:=by rw [appendF_files,fileAt_setF (by rw [e1];exact hil)]
   have hfd:f.data=(fileAt m1.files j).data++(qs.take i).flatten:=by rw [hfm2] at hfm;exact (congrArg FileM.data hfm).symm
   have hfs:f.syn=(fileAt m1.files j).syn:=by rw [hfm2] at hfm;exact (congrArg FileM.syn hfm).symm
   have hptr:ptrV ps j=.pointer (some ⟨f.g,0,none⟩):=by rw [←hps];show Value.pointer (some ⟨p.ps.getD j 0,0,none⟩)=_;rw [hpg]
   have hfo:=hS.perm (perm_DR hf (resD gd _ p) N)
   have htk:=flat_take (ls:=qs) (i:=i) (by omega)
   have hb1:=hbound (i+1)
   rw [htk,List.length_append] at hb1
   have hfl:f.data.length=(fileAt m1.files j).data.length+(qs.take i).flatten.length:=by rw [hfd,List.length_append]
   obtain ⟨va,vc,w6,r6,h6⟩:=hfo.appendB (i:=1) rfl hrd (by omega)
   obtain ⟨w7,r7,h7⟩:=h6.stL (i:=0) (o:=0) (off:=0) (T:=26) (v:=.slice va (f.data.length+n') vc) rfl (bsS _) rfl (by simp) rfl
   let f':FR:=⟨f.g,va,vc,f.data++qs.getD i [],f.syn⟩
   have hf'l:f'.data.length=f.data.length+n':=by show (f.data++qs.getD i []).length=_;rw [List.length_append,hln]
   have h8:St w0 X w7 (f'.blk::f'.row::(resD gd (appendF m1 j (qs.take i)) p++DR (p.FL.eraseIdx j) N)):=by
     unfold FR.blk FR.row FR.val
     rw [hf'l]
     exact h7
   have hsyn:f.syn≤f.data.length:=by
     have:=hp.wf.syn (fileAt (appendF m1 j (qs.take i)).files j) (by simp [fileAt,List.getD,hjl])
     rw [hfm] at this
     exact this.1
   obtain ⟨hp',hps'⟩:=hp.updFile (f':=f') hf rfl ⟨by rw [hf'l];show f.syn≤_;omega,by rw [hf'l];omega⟩
   have h9:=St.updFile hf hps' h8
   refine ⟨b,o,ha,by omega,by omega,_,_,_,q w5 hr.cells,f.g,0,hptr,_,_,_,(St.ldFile hS hf).1,va,_,vc,w6,r6,f.g,0,hptr,w7,r7,⟨i+1,wrap_succ hi' (by omega),by omega,?_⟩,mu_succ hi' (by omega)⟩
   have hmm:appendF m1 j (qs.take (i+1))= { appendF m1 j (qs.take i) with files:=setF (appendF m1 j (qs.take i)).files j fun _=>f'.m } :=by
     have e0:appendF m1 j (qs.take (i+1))= { m1 with files:=setF m1.files j fun f=>⟨f.data++(qs.take (i+1)).flatten,f.syn⟩ } :=rfl
     have e1':({ appendF m1 j (qs.take i) with files:=setF (appendF m1 j (qs.take i)).files j fun _=>f'.m } :DiskM)= { m1 with files:=setF (appendF m1 j (qs.take i)).files j fun _=>f'.m } :=rfl
     rw [e0,e1',appendF_files,setF_setF (by rw [e1];exact hil),htk]
     have e2':setF m1.files j (fun f=>⟨f.data++((qs.take i).flatten++qs.getD i []),f.syn⟩)=setF m1.files j fun _=>f'.m:=by
       unfold setF
       have:(⟨(fileAt m1.files j).data++((qs.take i).flatten++qs.getD i []),(fileAt m1.files j).syn⟩:FileM)=f'.m:=by
         show _=(⟨f.data++qs.getD i [],f.syn⟩:FileM)
         rw [hfd,hfs,List.append_assoc]
       simp only [this]
     rw [e2']
   rw [hmm]
   exact ⟨_,hps'.trans hps,hp',h9⟩
 · have hi':i=k:=by simp at hge;omega
   rw [hi',List.take_of_length_le (by omega)] at hD5
   exact ⟨rfl,hD5⟩

theorem sync_spec (n:Nm) (h:DiskIn w0 X w gd ps m N) (hb:m.steps<4611686018427387904):
   Calls Tryz.prog 146 #[.pointer (some ⟨gd,0,none⟩),strV n] w fun e w'=>e=.returned (errV (syncM m n).2)∧DiskIn w0 X w' gd ps (syncM m n).1 N:=by
 obtain ⟨mI,hI⟩:=eI
 have hw:=h.wf
 apply disk_Disk_Sync_vc
 refine (found_spec n h).mono ?_
 rintro e w1 ⟨rfl,c1⟩
 have hD1:=h.same c1
 refine ⟨_,_,rfl,_,neqS_nil hI _ _ _,fun hne=>?_,fun hok=>?_⟩
 · obtain ⟨e,he⟩:=Option.isSome_iff_exists.1 hne
   have:syncM m n=(m,some e):=by unfold syncM;rw [he]
   rw [this,he]
   exact ⟨rfl,hD1⟩
 have hfn:foundE m n=none:=by simpa using hok
 rw [if_pos hfn]
 obtain ⟨hil,_⟩:=foundI_lt hw hfn
 have hap:syncM m n=stepsM m fun m'=>syncF m' (foundI m n):=by simp only [syncM,hfn]
 refine (step_spec hD1 hb).mono ?_
 rintro e w4 ⟨rfl,hD4⟩
 refine ⟨_,rfl,_,neqS_nil hI _ _ _,fun hne=>?_,fun hok=>?_⟩
 · obtain ⟨e,he⟩:=Option.isSome_iff_exists.1 hne
   rw [hap]
   unfold stepsM
   rw [he]
   exact ⟨rfl,hD4⟩
 have hst:(stepM m).2=none:=by simpa using hok
 have hres:syncM m n=(syncF (stepM m).1 (foundI m n),none):=by rw [hap];unfold stepsM;rw [hst]
 rw [hres]
 obtain ⟨m1,hm1⟩:∃m1,(stepM m).1=m1:=⟨_,rfl⟩
 obtain ⟨e1,e2,e3,e4,_⟩:=stepM_same m
 rw [hm1] at hD4 e1 e2 e3 e4 ⊢
 obtain ⟨j,hj⟩:∃j,foundI m n=j:=⟨_,rfl⟩
 rw [hj] at hil ⊢
 obtain ⟨p,hps,hp,hS⟩:=hD4
 obtain ⟨f,hf,hpg,hfm⟩:=hp.file (i:=j) (by rw [e1];exact hil)
 have hptr:ptrV ps j=.pointer (some ⟨f.g,0,none⟩):=by rw [←hps];show Value.pointer (some ⟨p.ps.getD j 0,0,none⟩)=_;rw [hpg]
 have hfo:=hS.perm (perm_DR hf (resD gd _ p) N)
 obtain ⟨w7,r7,h7⟩:=hfo.stL (i:=0) (o:=1) (off:=1) (T:=3) (v:=.int .i64 (f.data.length:Int)) rfl (intS _) rfl (by simp) rfl
 let f':FR:=⟨f.g,f.a,f.c,f.data,f.data.length⟩
 have h8:St w0 X w7 (f'.blk::f'.row::(resD gd m1 p++DR (p.FL.eraseIdx j) N)):=h7
 have hdl:f.data.length≤1099511627776:=by
   have:=hp.wf.syn (fileAt m1.files j) (by simp [fileAt,List.getD,show j<m1.files.length by rw [e1];exact hil])
   rw [hfm] at this
   exact this.2
 obtain ⟨hp',hps'⟩:=hp.updFile (f':=f') hf rfl ⟨Nat.le_refl _,hdl⟩
 have h9:=St.updFile hf hps' h8
 refine ⟨f.g,0,hptr,_,_,_,(St.ldFile hS hf).1,f.g,0,hptr,w7,r7,rfl,?_⟩
 have hmm:syncF m1 j= { m1 with files:=setF m1.files j fun _=>f'.m } :=by
   unfold syncF setF
   rw [hfm];rfl
 rw [hmm]
 exact ⟨_,hps'.trans hps,hp',h9⟩

theorem eqMap (op:BinOp) (hop:op=.eql∨op=.neq) (x y:Operand) (g:Nat) (w:World):(eqlS op 149 x y (.map (some g)) (.map none)).run Tryz.prog w=.ok (.bool (op== .neq)) w:=by
 have h1:∀d,(Op.equalIn (d+1) 149 (.map (some g)) (.map none)).run Tryz.prog w=.ok false w:=fun d=>by simp [Op.equalIn,run_underlying dirT]
 have h2:(eqGuard op 149 x y (.map (some g)) (.map none)).run Tryz.prog w=.ok () w:=by rcases hop with rfl | rfl<;>rfl
 rcases hop with rfl | rfl<;>simp [eqlS,h2,binOp,Op.equal,show Op.maxDepth=9999+1 from rfl,h1 9999]

theorem clone_map (g:Nat) (es:Array MapEntry) (ck:Nat) (w:World) (hg:w.heap[g]?=some (.map es ck)):
   Calls Tryz.prog 78 #[.map (some g)] w fun e w'=>∃g',e=.returned (.map (some g'))∧w.heap.size≤g'∧Chg [] w w'∧w'.heap[g']?=some (.map es ck):=by
 apply maps_Clone_disk_dir_string_disk_file_vc
 refine ⟨_,eqMap .eql (.inl rfl) _ _ g w,fun h=>by simp at h,fun _=>⟨.iface 149 (.map (some w.heap.size)),w.alloc (.map es ck),?_,_,?_,w.heap.size,rfl,Nat.le_refl _,Chg.alloc _ _,heap_alloc_new w _⟩⟩
 · rw [run_callFunc_extern Tryz.func172 (by kernel_rfl) (by kernel_rfl) (by kernel_rfl) (e:=Extern.MapsClone.clone) (by kernel_rfl)]
   have e:Extern.MapsClone.clone #[.iface 149 (.map (some g))]=(do
       match ←getObj g with
       | .map entries clock=>do pure (.iface 149 (.map (some (←newObj (.map entries clock)))))
       | _=>stuck "maps.clone: a map expected" :Sem Value):=rfl
   rw [e]
   have e2:(getObj g).run Tryz.prog w=.ok (.map es ck) w:=by simp [getObj,Sem.run,hg]
   simp only [Sem.run_bind,e2,Result.andThen_ok,run_newObj_alloc]
   rfl
 · simp [Instr.typeAssert,run_underlying dirT]

theorem syncDir_spec (h:DiskIn w0 X w gd ps m N) (hb:m.steps<4611686018427387904):
   Calls Tryz.prog 84 #[.pointer (some ⟨gd,0,none⟩)] w fun e w'=>e=.returned (errV (syncDirM m).2)∧DiskIn w0 X w' gd ps (syncDirM m).1 N:=by
 obtain ⟨mI,hI⟩:=eI
 have hw:=h.wf
 apply disk_Disk_SyncDir_vc
 refine (ready_spec none 0 0 [] h ⟨Cells.nil _ _,rfl,Nat.le_refl _,fun _=>rfl⟩ (by omega)).mono ?_
 rintro e w1 ⟨rfl,rfl⟩
 refine ⟨_,rfl,_,neqS_nil hI _ _ _,fun hne=>?_,fun hok=>?_⟩
 · obtain ⟨e,he⟩:=Option.isSome_iff_exists.1 hne
   have:syncDirM m=(m,some e):=by unfold syncDirM;rw [he]
   rw [this,he]
   exact ⟨rfl,h⟩
 have hfn:readyM m []=none:=by simpa using hok
 have hap:syncDirM m=stepsM m syncDirF:=by unfold syncDirM;rw [hfn]
 refine (step_spec h hb).mono ?_
 rintro e w2 ⟨rfl,hD2⟩
 refine ⟨_,rfl,_,neqS_nil hI _ _ _,fun hne=>?_,fun hok=>?_⟩
 · obtain ⟨e,he⟩:=Option.isSome_iff_exists.1 hne
   rw [hap]
   unfold stepsM
   rw [he]
   exact ⟨rfl,hD2⟩
 have hst:(stepM m).2=none:=by simpa using hok
 have hres:syncDirM m=(syncDirF (stepM m).1,none):=by rw [hap];unfold stepsM;rw [hst]
 rw [hres]
 obtain ⟨m1,hm1⟩:∃m1,(stepM m).1=m1:=⟨_,rfl⟩
 rw [hm1] at hD2 ⊢
 obtain ⟨p,hps,hp,hS⟩:=hD2
 have hg:w2.heap[p.gn]?=some (.map p.esn p.ckn):=hS.holds 1 _ rfl
 refine ⟨_,DiskIn.cell hS (i:=6) (dirA _) rfl,(clone_map p.gn p.esn p.ckn w2 hg).mono ?_⟩
 rintro e w3 ⟨g',rfl,hg',c3,hh⟩
 have h3:=hS.upd (i:=2) (r':=.blk g' (.map p.esn p.ckn)) rfl (c3.mono (by simp)) hh (by simp [Res.fp];exact .inr hg')
 obtain ⟨w4,r4,h4⟩:=h3.stL (i:=0) (o:=7) (off:=7) (T:=149) (v:=.map (some g')) rfl (dirS _) rfl (by simp [dskL]) rfl
 obtain ⟨w5,r5,h5⟩:=h4.stL (i:=0) (o:=8) (off:=8) (T:=150) (v:=.slice none 0 0) rfl (chsS _) rfl (by simp [dskL]) rfl
 have h6:=h5.upd (i:=3) (r':=.row 164 3 (.slice none 0 0) 0 []) rfl (Chg.refl _ _) (World.ownsRow_nil _ _ _ _) (by simp [Res.fp,Value.ownBlock])
 refine ⟨_,rfl,w4,r4,w5,r5,rfl, { p with gs:=g',ess:=p.esn,cks:=p.ckn,Ms:=p.Mn,ca:=none,cc:=0 },hps,?_,h6⟩
 exact ⟨⟨rfl,fun k=>by show OkDir _ (replay m1.now (([]:List ChM).take k));rw [List.take_nil];exact hp.wf.okNow,by simp [syncDirF],hp.wf.syn,hp.wf.size⟩,hp.files,hp.arm,hp.fails,hp.mapn,hp.isn,hp.mapn,hp.isn⟩

end

end Go.Proofs.YtpmhjnhgpplmnaaGreatDoor
end

section
namespace Go.Proofs.YtpmhjnhgpplmnaaGreatDoor
open Go Sx
set_option maxRecDepth 8000

section
variable {w0 w w':World} {X:List Nat} {N N':List Res} {gd:Nat} {ps:List Nat} {m:DiskM}

theorem eqPtr (op:BinOp) (hop:op=.eql∨op=.neq) {T e:TypeId} (hT:Tryz.prog.underlying T=some (.pointer e)) (x y:Operand) (a:Option Addr) (w:World):(eqlS op T x y (.pointer a) (.pointer none)).run Tryz.prog w=.ok (.bool (if op== .neq then a.isSome else a.isNone)) w:=by
 have h1:∀d,(Op.equalIn (d+1) T (.pointer a) (.pointer none)).run Tryz.prog w=.ok a.isNone w:=fun d=>by cases a<;>simp [Op.equalIn,run_underlying hT]
 have h2:(eqGuard op T x y (.pointer a) (.pointer none)).run Tryz.prog w=.ok () w:=by rcases hop with rfl | rfl<;>rfl
 rcases hop with rfl | rfl<;>cases a<;>simp [eqlS,h2,binOp,Op.equal,show Op.maxDepth=9999+1 from rfl,h1 9999]

theorem lookD {gs:List Nat} {g:Nat} {es:Array MapEntry} {ck:Nat} {Mn d:Dir} (hE:MapE kyE (vlE gs) es ck Mn) (hD:MapIsA Ent.name Mn d) (hg:w.heap[g]?=some (.map es ck)) (n:Nm) (ok:Bool):
   (Instr.lookup 149 (.map (some g)) (strV n) true).run Tryz.prog w=.ok (.tuple #[((findD d n).map (vlE gs)).getD (.pointer none),.bool (findD d n).isSome]) w:=by
 have hl:=hE.lookupK (P:=Tryz.prog) (keyD Mn) dirT hg (id:=n) trivial pfZ
 have hf:=hD.find n
 rw [hl]
 cases hq:fndM Ent.name Mn n with
 | none=>rw [hq] at hf;rw [show findD d n=none from hf.symm];rfl
 | some q=>rw [hq] at hf;rw [show findD d n=some q.2 from hf.symm];rfl

theorem pfT:Tryz.prog.underlying 162=some (.pointer 169):=Tryz.underlying162
theorem pfA (w:World):(isAgg 162).run Tryz.prog w=.ok false w:=Tryz.isAgg162 w
theorem getLast' {M:List Res} {x:Res} :(M++ [x])[M.length]?=some x:=by simp

theorem make_spec {M:List Res} {i g:Nat} {gs:List Nat} {es:Array MapEntry} {ck:Nat} {Mn d:Dir} (hS:St w0 X w M) (hi:M[i]?=some (.blk g (.map es ck))) (hE:MapE kyE (vlE gs) es ck Mn) (hD:MapIsA Ent.name Mn d) (c:ChM):
   Calls Tryz.prog 79 #[.map (some g),.agg (chC gs c).toArray] w fun e w'=>e=.returned (.tuple #[])∧∃es' ck' Mn',MapE kyE (vlE gs) es' ck' Mn'∧MapIsA Ent.name Mn' (mkD d c)∧St w0 X w' (M.set i (.blk g (.map es' ck'))):=by
 have him:=(List.getElem?_eq_some_iff.1 hi).1
 apply disk_dir_make_vc
 obtain ⟨g3,w1,r1,h1⟩:=hS.boxA (P:=Tryz.prog) 164 (chC gs c)
 have hi1:∀y:Res,(M++ [y])[i]?=some (.blk g (.map es ck)):=fun y=>by rw [List.getElem?_append_left him];exact hi
 have hg1:w1.heap[g]?=some (.map es ck):=h1.holds i _ (hi1 _)
 have ldT:∀ {w'':World} {M':List Res},St w0 X w'' (M'++ [Res.arr g3 164 (chC gs c)])→(Instr.loadAt 9 (.pointer (some ⟨g3,2,none⟩))).run Tryz.prog w''=.ok (strV c.to) w''∧(Instr.loadAt 9 (.pointer (some ⟨g3,1,none⟩))).run Tryz.prog w''=.ok (strV c.fr) w'':=fun h=>
   ⟨h.ldL (o:=2) getLast' (stA' _) rfl rfl,h.ldL (o:=1) getLast' (stA' _) rfl rfl⟩
 have ldM:(Instr.loadAt 162 (.pointer (some ⟨g3,0,none⟩))).run Tryz.prog w1=.ok (match c.made with | some i=>ptrV gs i | none=>.pointer none) w1:=h1.ldL (o:=0) getLast' (pfA _) rfl rfl
 have setM:∀ {w'':World} {o:Obj},St w0 X w'' ((M++ [Res.arr g3 164 (chC gs c)]).set i (.blk g o))→St w0 X w'' (M.set i (.blk g o)++ [Res.arr g3 164 (chC gs c)]):=fun h=>by
   rw [List.set_append_left _ _ him] at h;exact h
 cases hm:c.made with
 | some k=>
   rw [hm] at ldM
   obtain ⟨es',ck',rU,hE'⟩:=hE.updateK (P:=Tryz.prog) (keyD Mn) dirT hg1 (⟨c.to,k⟩:Ent) trivial
   have h2:=setM (St.putBlk h1 (i:=i) (o':=.map es' ck') (hi1 _))
   refine ⟨g3,w1,r1,_,ldM,_,eqPtr .neq (.inr rfl) pfT _ _ (some ⟨gs.getD k 0,0,none⟩) w1,fun _=>⟨_,(ldT h1).1,_,ldM,_,rU,rfl,es',ck',_,hE',?_,St.pop h2⟩,fun h=>by simp at h⟩
   have:mkD d c=insA Ent.name d ⟨c.to,k⟩:=by unfold mkD;rw [hm]
   rw [this]
   exact hD.upd _
 | none=>
   rw [hm] at ldM
   have hlk:=lookD hE hD hg1 c.fr true
   refine ⟨g3,w1,r1,_,ldM,_,eqPtr .neq (.inr rfl) pfT _ _ none w1,fun h=>by simp at h,fun _=>⟨_,(ldT h1).2,_,_,w1,hlk,fun hno=>?_,fun hyes=>?_⟩⟩
   · have hf:findD d c.fr=none:=by
       cases hq:findD d c.fr with
       | none=>rfl
       | some e=>rw [hq] at hno;simp at hno
     have:mkD d c=d:=by unfold mkD;rw [hm];simp only [hf]
     rw [this]
     refine ⟨rfl,es,ck,Mn,hE,hD,?_⟩
     have e:M.set i (.blk g (.map es ck))=M:=by
       obtain ⟨h1,h2⟩:=List.getElem?_eq_some_iff.1 hi
       rw [←h2,List.set_getElem_self]
     rw [e]
     exact St.pop h1
   · obtain ⟨e,hf⟩:∃e,findD d c.fr=some e:=by
       cases hq:findD d c.fr with
       | none=>rw [hq] at hyes;simp at hyes
       | some e=>exact ⟨e,rfl⟩
     have hfnd:∃j,fndM Ent.name Mn c.fr=some (j,e):=by
       have h:=hD.find c.fr
       have hf':findA Ent.name d c.fr=some e:=hf
       rw [hf'] at h
       obtain ⟨⟨j,e'⟩,h1,h2⟩:=Option.map_eq_some_iff.1 h
       exact ⟨j,by rw [h1];simp only at h2;rw [h2]⟩
     obtain ⟨j,hj⟩:=hfnd
     obtain ⟨es',rD,hD1,_⟩:=hE.deleteK (P:=Tryz.prog) (keyD Mn) dirT hg1 (id:=c.fr) trivial #[149,9] rfl 0
     obtain ⟨_,hE'⟩:=hD1 j e hj
     have hD':=hD.del hj
     have h2:=setM (St.putBlk h1 (i:=i) (o':=.map es' ck) (hi1 _))
     have hi2:(M.set i (.blk g (.map es' ck))++ [Res.arr g3 164 (chC gs c)])[i]?=some (.blk g (.map es' ck)):=by
       rw [List.getElem?_append_left (by simpa using him),List.getElem?_set_self him]
     have hval:((some e).map (vlE gs)).getD (.pointer none)=ptrV gs e.file:=rfl
     rw [hf,hval]
     have ldTo:=(ldT h2).1
     refine ⟨_,(ldT h1).2,_,_,rD,_,ldTo,fun w'=>∃es2 ck2 Mn2,MapE kyE (vlE gs) es2 ck2 Mn2∧MapIsA Ent.name Mn2 (mkD d c)∧St w0 X w' (M.set i (.blk g (.map es2 ck2))),⟨fun hne=>?_,fun heq=>?_⟩,?_⟩
     · rw [empty_eq] at hne
       have hto:¬c.to=[]:=by
         intro h0;rw [h0] at hne;simp at hne
       obtain ⟨es2,ck2,rU,hE2⟩:=hE'.updateK (P:=Tryz.prog) (keyD _) dirT (h2.holds i _ hi2) (⟨c.to,e.file⟩:Ent) trivial
       have h3:=St.putBlk h2 (i:=i) (o':=.map es2 ck2) hi2
       rw [List.set_append_left _ _ (by simpa using him),List.set_set] at h3
       refine ⟨_,ldTo,_,rU,es2,ck2,_,hE2,?_,St.pop h3⟩
       have:mkD d c=insA Ent.name (delA Ent.name d c.fr) ⟨c.to,e.file⟩:=by unfold mkD;rw [hm];simp only [hf,if_neg hto]
       rw [this]
       exact hD'.upd _
     · rw [empty_eq] at heq
       have hto:c.to=[]:=List.eq_nil_of_length_eq_zero (by simpa using heq)
       refine ⟨es',ck,_,hE',?_,St.pop h2⟩
       have:mkD d c=delA Ent.name d c.fr:=by unfold mkD;rw [hm];simp only [hf,if_pos hto]
       rw [this]
       exact hD'
     · rintro w6 ⟨es2,ck2,Mn2,h1,h2,h3⟩
       exact ⟨rfl,es2,ck2,Mn2,h1,h2,h3⟩

theorem Sx.St.varA {P:Program} {w0 w:World} {X:List Nat} {M:List Res} (h:St w0 X w M) {T n:Nat} {z v:List Value} (hz:∀w,(zeroValue T).run P w=.ok (.agg z.toArray) w) (hS:∀w,(sizeOf T).run P w=.ok n w) (hzl:z.length=n) (hv:v.length=n) (h1:∀u∈v,u.oneCell'=true):
   ∃g w1 w2,(Instr.alloc T true (.tuple #[])).run P w=.ok (.pointer (some ⟨g,0,none⟩)) w1∧(Instr.storeAt T (.pointer (some ⟨g,0,none⟩)) (.agg v.toArray)).run P w1=.ok () w2∧St w0 X w2 (M++ [.arr g T v]):=by
 obtain ⟨g,w1,r1,h2⟩:=h.zeroA hz
 obtain ⟨w2,r2,h3⟩:=h2.stA (i:=M.length) (v:=v) getLast' (hS _) hzl hv h1
 rw [List.set_append_right _ _ (Nat.le_refl _),Nat.sub_self] at h3
 exact ⟨g,w1,w2,r1,r2,h3⟩

theorem chZ (w:World):(zeroValue 164).run Tryz.prog w=.ok (.agg [Value.pointer none,strV [],strV []].toArray) w:=Tryz.zeroValue164 w
theorem chSz (w:World):(sizeOf 164).run Tryz.prog w=.ok 3 w:=Tryz.sizeOf164 w
theorem chAg (w:World):(isAgg 164).run Tryz.prog w=.ok true w:=Tryz.isAgg164 w

theorem DOk.change {p:DP} (hp:DOk m p) (c:ChM) (hc:c.made=none) (hto:c.to=[]∨goodN c.to=true) {es:Array MapEntry} {ck:Nat} {Mn:Dir} (hE:MapE kyE (vlE p.ps) es ck Mn) (hD:MapIsA Ent.name Mn (mkD m.now c)) (ca:Option Addr) (cc:Nat):DOk (doCh m c) { p with esn:=es,ckn:=ck,Mn:=Mn,ca:=ca,cc:=cc } :=by
 have hn:=hp.wf.okNow
 have hok:OkDir m.files.length (mkD m.now c):=by
   unfold mkD
   rw [hc]
   cases hf:findD m.now c.fr with
   | none=>exact hn
   | some e=>
     obtain ⟨h1,h2⟩:=findA_mem hf
     simp only
     split
     · exact hn.del _
     · rename_i hne
       refine (hn.del c.fr).ins (hn.ent e h1).1 (hto.resolve_left hne) (.inl ?_) fun x hx hxn hfe=>?_
       · have:=delA_len_in hf;have:=hn.len;omega
       · obtain ⟨h3,h4⟩:=mem_delA.1 hx
         have:=hn.inj' h3 h1 hfe
         rw [this] at h4
         exact h4 h2
 exact ⟨hp.wf.snoc (Nat.le_refl _) hp.wf.syn (fun i hi=>by rw [hc] at hi;cases hi) hok,hp.files,hp.arm,hp.fails,hE,hD,hp.maps,hp.iss⟩

theorem St.noted {p:DP} {c:ChM} {vb:Option Addr} {vd:Nat} {w2:World}
   (h2:St w0 X w2 (((resD gd m p++DR p.FL N).set 3 (.row 164 3 (.slice vb (m.chs.length+1) vd) (m.chs.length+1) (m.chs.flatMap (chC p.ps)++chC p.ps c))).set 0 (.arr gd 152 ((dskL m p).set 8 (.slice vb (m.chs.length+1) vd))))):
   St w0 X w2 (resD gd { m with chs:=m.chs++ [c] } { p with ca:=vb,cc:=vd } ++DR p.FL N):=by
 have el:(m.chs++ [c]).length=m.chs.length+1:=by simp
 have ef:(m.chs++ [c]).flatMap (chC p.ps)=m.chs.flatMap (chC p.ps)++chC p.ps c:=by simp
 unfold resD dskL
 show St w0 X w2 (.arr gd 152 [_,_,_,_,_,_,_,_,.slice vb (m.chs++ [c]).length vd]:: .blk _ _:: .blk _ _:: .row _ _ (.slice vb (m.chs++ [c]).length vd) (m.chs++ [c]).length ((m.chs++ [c]).flatMap (chC p.ps))::_::_)
 simp only [el,ef]
 exact h2

set_option maxHeartbeats 1000000 in
theorem rename_spec (a b:Nm) (h:DiskIn w0 X w gd ps m N) (hb:m.steps<4611686018427387904) (hc:m.chs.length<1000000000):
   Calls Tryz.prog 190 #[.pointer (some ⟨gd,0,none⟩),strV a,strV b] w fun e w'=>e=.returned (errV (renameM m a b).2)∧DiskIn w0 X w' gd ps (renameM m a b).1 N:=by
 obtain ⟨mI,hI⟩:=eI
 apply disk_Disk_Rename_vc
 obtain ⟨g,w1,r1,h1⟩:=(St.start w).lit strT [strV a,strV b] (by simp [Value.oneCell',strV]) (by simp)
 have hD1:=h.same h1.chg
 refine ⟨_,_,_,w1,r1,(ready_spec _ _ _ [a,b] hD1 (h1.rd (i:=0) rfl) (by simp)).mono ?_⟩
 rintro e w2 ⟨rfl,rfl⟩
 refine ⟨_,rfl,_,neqS_nil hI _ _ _,fun hne=>?_,fun hok=>?_⟩
 · obtain ⟨e,he⟩:=Option.isSome_iff_exists.1 hne
   have:renameM m a b=(m,some e):=by simp only [renameM,he]
   rw [this,he]
   exact ⟨rfl,hD1⟩
 have hrn:readyM m [a,b]=none:=by simpa using hok
 have hgb:goodN b=true:=by
   unfold readyM at hrn
   split at hrn
   · cases hrn
   · split at hrn
     · rename_i hall;simp at hall;exact hall.2
     · cases hrn
 refine (found_spec a hD1).mono ?_
 rintro e w3 ⟨rfl,c3⟩
 have hD3:=hD1.same c3
 refine ⟨_,_,rfl,_,neqS_nil hI _ _ _,fun hne=>?_,fun hok=>?_⟩
 · obtain ⟨e,he⟩:=Option.isSome_iff_exists.1 hne
   have:renameM m a b=(m,some e):=by simp only [renameM,hrn,he]
   rw [this,he]
   exact ⟨rfl,hD3⟩
 have hfn:foundE m a=none:=by simpa using hok
 have hap:renameM m a b=stepsM m fun m=>doCh m ⟨none,a,b⟩:=by simp only [renameM,hrn,hfn]
 refine (step_spec hD3 hb).mono ?_
 rintro e w4 ⟨rfl,hD4⟩
 refine ⟨_,rfl,_,neqS_nil hI _ _ _,fun hne=>?_,fun hok=>?_⟩
 · obtain ⟨e,he⟩:=Option.isSome_iff_exists.1 hne
   rw [hap]
   unfold stepsM
   rw [he]
   exact ⟨rfl,hD4⟩
 have hst:(stepM m).2=none:=by simpa using hok
 have hres:renameM m a b=(doCh (stepM m).1 ⟨none,a,b⟩,none):=by rw [hap];unfold stepsM;rw [hst]
 rw [hres]
 obtain ⟨m1,hm1⟩:∃m1,(stepM m).1=m1:=⟨_,rfl⟩
 obtain ⟨e1,e2,e3,e4,_⟩:=stepM_same m
 rw [hm1] at hD4 e1 e2 e3 e4 ⊢
 obtain ⟨p,hps,hp,hS⟩:=hD4
 obtain ⟨c,hcd⟩:∃c:ChM,(⟨none,a,b⟩:ChM)=c:=⟨_,rfl⟩
 have hcm:c.made=none:=by rw [←hcd]
 have hcv:(chC p.ps c)=[.pointer none,strV a,strV b]:=by rw [←hcd];rfl
 obtain ⟨g11,w5,w6,r5,r6,h6⟩:=hS.varA (v:=chC p.ps c) chZ chSz rfl (chC_len _ _) (chC_one _ _)
 rw [hcv] at r6
 refine ⟨_,ch_build12 a b w4,g11,w5,r5,w6,r6,fun w'=>∃Y,St w0 X w' ((.arr gd 152 (dskL m1 p)::Y)++ [.arr g11 164 (chC p.ps c)]),⟨_,h6.drew⟩,.map (some p.gn),?_,(chC p.ps c).toArray,?_,(make_spec (i:=1) h6.drew rfl hp.mapn hp.isn c).mono ?_⟩
 · rintro w' ⟨Y,hY⟩
   exact hY.ldL (i:=0) (o:=6) rfl (dirA _) rfl rfl
 · rintro w' ⟨Y,hY⟩
   exact hY.ldA (l:=chC p.ps c) getLast' (chAg _) (chSz _) (chC_len _ _)
 rintro e w7 ⟨rfl,es',ck',Mn',hE',hD',h7⟩
 have hp7:({ p with esn:=es',ckn:=ck',Mn:=Mn' } :DP).ps=p.ps:=rfl
 obtain ⟨q,hq⟩:∃q,({ p with esn:=es',ckn:=ck',Mn:=Mn' } :DP)=q:=⟨_,rfl⟩
 have h7:St w0 X w7 ((resD gd m1 q++DR q.FL N)++ [.arr g11 164 (chC p.ps c)]):=by rw [←hq];exact h7
 have hqps:q.ps=p.ps:=by rw [←hq];rfl
 have h7d:=h7.drew
 obtain ⟨g8,w8,vb,vd,w9,r8,r9,h9,h8⟩:=h7d.pushA (i:=3) (ty:=150) chT rfl (chC p.ps c) (chC_len _ _) (by decide) (chC_one _ _) (by rw [e3];omega) (by simp only [maxLen];rw [e3];omega)
 obtain ⟨w10,r10,h10⟩:=h9.stL (i:=0) (o:=8) (off:=8) (T:=150) (v:=.slice vb (m1.chs.length+1) vd) rfl (chsS _) rfl (by simp [dskL]) rfl
 have hlt:3<(resD gd m1 q++DR q.FL N).length:=by simp only [resD,List.length_append,List.length_cons];omega
 have h9':=h9
 have h8':=h8
 rw [List.set_append_left _ _ hlt] at h9'
 refine ⟨rfl,fun w'=>∃Y,St w0 X w' ((.arr gd 152 (dskL m1 p)::Y)++ [.arr g11 164 (chC p.ps c)]),fun _ h=>h,?_,fun w'=>∃Y,St w0 X w' ((.arr gd 152 (dskL m1 q)::Y)++ [.arr g11 164 (chC p.ps c)]),⟨_,h7d⟩,_,_,_,fun w' ⟨Y,hY⟩=>hY.ldL (i:=0) (o:=8) rfl (chsA _) rfl rfl,(chC p.ps c).toArray,fun w' ⟨Y,hY⟩=>hY.ldA (l:=chC p.ps c) getLast' (chAg _) (chSz _) (chC_len _ _),_,_,_,w8,r8,fun w'=>∃Y,St w0 X w' ((.arr gd 152 (dskL m1 q)::Y)++ [.arr g11 164 (chC p.ps c)]),fun _ h=>h,⟨_,h8⟩,vb,_,vd,w9,r9,fun w'=>∃Y,St w0 X w' ((.arr gd 152 (dskL m1 q)::Y)++ [.arr g11 164 (chC p.ps c)]),fun _ h=>h,⟨_,h9'⟩,w10,r10,rfl,?_⟩
 · rw [←hq] at h7
   exact ⟨_,h7⟩
 · have hok:=hp.change c hcm (.inr (by rw [←hcd];exact hgb)) hE' hD' vb vd
   refine ⟨{ p with esn:=es',ckn:=ck',Mn:=Mn',ca:=vb,cc:=vd },hps,?_,?_⟩
   · rw [hcd];exact hok
   · rw [hcd]
     have hX:St w0 X w10 ((((resD gd m1 q++DR q.FL N).set 3 (.row 164 3 (.slice vb (m1.chs.length+1) vd) (m1.chs.length+1) (m1.chs.flatMap (chC q.ps)++chC q.ps c))).set 0 (.arr gd 152 ((dskL m1 q).set 8 (.slice vb (m1.chs.length+1) vd))))++ [.arr g11 164 (chC p.ps c)]):=by
       rw [hqps]
       rw [hqps] at h10
       exact h10
     have hY:=St.noted (m:=m1) (p:=q) (c:=c) (gd:=gd) (N:=N) (vb:=vb) (vd:=vd) (St.pop hX)
     rw [←hq] at hY
     exact hY

end

end Go.Proofs.YtpmhjnhgpplmnaaGreatDoor
end

section
namespace Go.Proofs.YtpmhjnhgpplmnaaGreatDoor
open Go Sx
set_option maxRecDepth 8000

section
variable {w0 w w':World} {X:List Nat} {N N':List Res} {gd:Nat} {ps:List Nat} {m:DiskM}

set_option maxHeartbeats 1000000 in
theorem remove_spec (a:Nm) (h:DiskIn w0 X w gd ps m N) (hb:m.steps<4611686018427387904) (hc:m.chs.length<1000000000):
   Calls Tryz.prog 89 #[.pointer (some ⟨gd,0,none⟩),strV a] w fun e w'=>e=.returned (errV (removeM m a).2)∧DiskIn w0 X w' gd ps (removeM m a).1 N:=by
 obtain ⟨mI,hI⟩:=eI
 apply disk_Disk_Remove_vc
 refine (found_spec a h).mono ?_
 rintro e w3 ⟨rfl,c3⟩
 have hD3:=h.same c3
 refine ⟨_,_,rfl,_,neqS_nil hI _ _ _,fun hne=>?_,fun hok=>?_⟩
 · obtain ⟨e,he⟩:=Option.isSome_iff_exists.1 hne
   have:removeM m a=(m,some e):=by simp only [removeM,he]
   rw [this,he]
   exact ⟨rfl,hD3⟩
 have hfn:foundE m a=none:=by simpa using hok
 have hap:removeM m a=stepsM m fun m=>doCh m ⟨none,a,[]⟩:=by simp only [removeM,hfn]
 refine (step_spec hD3 hb).mono ?_
 rintro e w4 ⟨rfl,hD4⟩
 refine ⟨_,rfl,_,neqS_nil hI _ _ _,fun hne=>?_,fun hok=>?_⟩
 · obtain ⟨e,he⟩:=Option.isSome_iff_exists.1 hne
   rw [hap]
   unfold stepsM
   rw [he]
   exact ⟨rfl,hD4⟩
 have hst:(stepM m).2=none:=by simpa using hok
 have hres:removeM m a=(doCh (stepM m).1 ⟨none,a,[]⟩,none):=by rw [hap];unfold stepsM;rw [hst]
 rw [hres]
 obtain ⟨m1,hm1⟩:∃m1,(stepM m).1=m1:=⟨_,rfl⟩
 obtain ⟨e1,e2,e3,e4,_⟩:=stepM_same m
 rw [hm1] at hD4 e1 e2 e3 e4 ⊢
 obtain ⟨p,hps,hp,hS⟩:=hD4
 obtain ⟨c,hcd⟩:∃c:ChM,(⟨none,a,[]⟩:ChM)=c:=⟨_,rfl⟩
 have hcm:c.made=none:=by rw [←hcd]
 have hcv:(chC p.ps c)=[.pointer none,strV a,strV []]:=by rw [←hcd];rfl
 obtain ⟨g11,w5,w6,r5,r6,h6⟩:=hS.varA (v:=chC p.ps c) chZ chSz rfl (chC_len _ _) (chC_one _ _)
 rw [hcv] at r6
 refine ⟨_,ch_build1 a w4,g11,w5,r5,w6,r6,fun w'=>∃Y,St w0 X w' ((.arr gd 152 (dskL m1 p)::Y)++ [.arr g11 164 (chC p.ps c)]),⟨_,h6.drew⟩,.map (some p.gn),?_,(chC p.ps c).toArray,?_,(make_spec (i:=1) h6.drew rfl hp.mapn hp.isn c).mono ?_⟩
 · rintro w' ⟨Y,hY⟩
   exact hY.ldL (i:=0) (o:=6) rfl (dirA _) rfl rfl
 · rintro w' ⟨Y,hY⟩
   exact hY.ldA (l:=chC p.ps c) getLast' (chAg _) (chSz _) (chC_len _ _)
 rintro e w7 ⟨rfl,es',ck',Mn',hE',hD',h7⟩
 have hp7:({ p with esn:=es',ckn:=ck',Mn:=Mn' } :DP).ps=p.ps:=rfl
 obtain ⟨q,hq⟩:∃q,({ p with esn:=es',ckn:=ck',Mn:=Mn' } :DP)=q:=⟨_,rfl⟩
 have h7:St w0 X w7 ((resD gd m1 q++DR q.FL N)++ [.arr g11 164 (chC p.ps c)]):=by rw [←hq];exact h7
 have hqps:q.ps=p.ps:=by rw [←hq];rfl
 have h7d:=h7.drew
 obtain ⟨g8,w8,vb,vd,w9,r8,r9,h9,h8⟩:=h7d.pushA (i:=3) (ty:=150) chT rfl (chC p.ps c) (chC_len _ _) (by decide) (chC_one _ _) (by rw [e3];omega) (by simp only [maxLen];rw [e3];omega)
 obtain ⟨w10,r10,h10⟩:=h9.stL (i:=0) (o:=8) (off:=8) (T:=150) (v:=.slice vb (m1.chs.length+1) vd) rfl (chsS _) rfl (by simp [dskL]) rfl
 have hlt:3<(resD gd m1 q++DR q.FL N).length:=by simp only [resD,List.length_append,List.length_cons];omega
 have h9':=h9
 rw [List.set_append_left _ _ hlt] at h9'
 refine ⟨rfl,fun w'=>∃Y,St w0 X w' ((.arr gd 152 (dskL m1 p)::Y)++ [.arr g11 164 (chC p.ps c)]),fun _ h=>h,?_,fun w'=>∃Y,St w0 X w' ((.arr gd 152 (dskL m1 q)::Y)++ [.arr g11 164 (chC p.ps c)]),⟨_,h7d⟩,_,_,_,fun w' ⟨Y,hY⟩=>hY.ldL (i:=0) (o:=8) rfl (chsA _) rfl rfl,(chC p.ps c).toArray,fun w' ⟨Y,hY⟩=>hY.ldA (l:=chC p.ps c) getLast' (chAg _) (chSz _) (chC_len _ _),_,_,_,w8,r8,fun w'=>∃Y,St w0 X w' ((.arr gd 152 (dskL m1 q)::Y)++ [.arr g11 164 (chC p.ps c)]),fun _ h=>h,⟨_,h8⟩,vb,_,vd,w9,r9,fun w'=>∃Y,St w0 X w' ((.arr gd 152 (dskL m1 q)::Y)++ [.arr g11 164 (chC p.ps c)]),fun _ h=>h,⟨_,h9'⟩,w10,r10,rfl,?_⟩
 · rw [←hq] at h7
   exact ⟨_,h7⟩
 · have hok:=hp.change c hcm (.inl (by rw [←hcd])) hE' hD' vb vd
   refine ⟨{ p with esn:=es',ckn:=ck',Mn:=Mn',ca:=vb,cc:=vd },hps,?_,?_⟩
   · rw [hcd];exact hok
   · rw [hcd]
     have hX:St w0 X w10 ((((resD gd m1 q++DR q.FL N).set 3 (.row 164 3 (.slice vb (m1.chs.length+1) vd) (m1.chs.length+1) (m1.chs.flatMap (chC q.ps)++chC q.ps c))).set 0 (.arr gd 152 ((dskL m1 q).set 8 (.slice vb (m1.chs.length+1) vd))))++ [.arr g11 164 (chC p.ps c)]):=by
       rw [hqps]
       rw [hqps] at h10
       exact h10
     have hY:=St.noted (m:=m1) (p:=q) (c:=c) (gd:=gd) (N:=N) (vb:=vb) (vd:=vd) (St.pop hX)
     rw [←hq] at hY
     exact hY

structure DMem (m:DiskM) (p:DP):Prop where
 okn:OkDir m.files.length m.now
 fsyn:∀f∈m.files,f.syn≤f.data.length∧f.data.length≤1099511627776
 size:0≤m.size∧m.size≤67108864
 files:p.FL.map FR.m=m.files
 arm:∀k,m.arm=some k→p.av=(k:Int)∧k≤9223372036854775807
 fails:FailsR m.fails p.fa p.fn p.fc p.F
 mapn:MapE kyE (vlE p.ps) p.esn p.ckn p.Mn
 isn:MapIsA Ent.name p.Mn m.now
theorem DOk.mem {p:DP} (hp:DOk m p):DMem m p:=⟨hp.wf.okNow,hp.wf.syn,hp.wf.size,hp.files,hp.arm,hp.fails,hp.mapn,hp.isn⟩

end

end Go.Proofs.YtpmhjnhgpplmnaaGreatDoor
end

section
namespace Go.Proofs.YtpmhjnhgpplmnaaGreatDoor
open Go Sx
set_option maxRecDepth 8000

section
variable {w0 w w':World} {X:List Nat} {N N':List Res} {gd:Nat} {ps:List Nat} {m:DiskM}

theorem read_spec (n:Nm) (h:DiskIn w0 X w gd ps m N):
   Calls Tryz.prog 57 #[.pointer (some ⟨gd,0,none⟩),strV n] w fun e w'=>∃a k c,e=.returned (.tuple #[.slice a k c,errV (foundE m n)])∧FreshB w w' a k c (readF m n):=by
 obtain ⟨mI,hI⟩:=eI
 apply disk_Disk_Read_vc
 refine (found_spec n h).mono ?_
 rintro e w1 ⟨rfl,c1⟩
 refine ⟨_,_,rfl,_,neqS_nil hI _ _ _,fun hne=>?_,fun hok=>?_⟩
 · refine ⟨none,0,0,rfl,?_⟩
   have:readF m n=[]:=by unfold readF;rw [if_pos hne]
   rw [this]
   exact FreshB.after (FreshB.nil _) c1
 have hfn:foundE m n=none:=by simpa using hok
 obtain ⟨p,hps,hp,hS⟩:=h.same c1
 obtain ⟨hil,_⟩:=foundI_lt hp.wf hfn
 obtain ⟨f,hf,hpg,hfm⟩:=hp.file hil
 have hptr:ptrV ps (foundI m n)=.pointer (some ⟨f.g,0,none⟩):=by rw [←hps];show Value.pointer (some ⟨p.ps.getD _ 0,0,none⟩)=_;rw [hpg]
 obtain ⟨l1,l2,l3⟩:=St.ldFile hS hf
 have hdl:f.data.length≤1099511627776:=by
   have:=hp.wf.syn (fileAt m.files (foundI m n)) (by simp [fileAt,List.getD,hil])
   rw [hfm] at this
   exact this.2
 rw [if_pos hfn]
 refine ⟨f.g,0,hptr,_,_,_,l1,(clone_spec _ _ _ _ _ l3 (by omega)).mono ?_⟩
 rintro e w2 ⟨a',c',rfl,h2⟩
 refine ⟨_,_,_,rfl,a',_,c',by rw [hfn];rfl,?_⟩
 have:readF m n=f.data:=by unfold readF;rw [if_neg (by rw [hfn];simp),hfm]
 rw [this]
 exact FreshB.after h2 c1

theorem steps_spec (h:DiskIn w0 X w gd ps m N):Calls Tryz.prog 61 #[.pointer (some ⟨gd,0,none⟩)] w fun e w'=>e=.returned (.int .i64 (m.steps:Int))∧w'=w:=by
 obtain ⟨p,hps,hp,hS⟩:=h
 apply disk_Disk_Steps_vc
 exact ⟨_,DiskIn.cell hS (i:=0) (intA _) rfl,rfl,rfl⟩
theorem down_spec (h:DiskIn w0 X w gd ps m N):Calls Tryz.prog 64 #[.pointer (some ⟨gd,0,none⟩)] w fun e w'=>e=.returned (.bool m.down)∧w'=w:=by
 obtain ⟨p,hps,hp,hS⟩:=h
 apply disk_Disk_Down_vc
 exact ⟨_,DiskIn.cell hS (i:=1) (boolA _) rfl,rfl,rfl⟩

theorem intT:ElemT Tryz.prog 29 3 1 8 (.int .i64 0):=⟨by kernel_rfl,⟨Tryz.t3,by kernel_rfl,by kernel_rfl,by kernel_rfl,by kernel_rfl⟩,rfl,by decide⟩

theorem built_disk:Tryz.prog.built 152=fun parts=>Instr.fill (fun i=>(#[(0,5),(5,1),(6,1),(7,1),(8,1)]:Array (Nat×Nat))[i]?) #[.int .i64 0,.bool false,.bool false,.int .i64 0,.slice none 0 0,.int .i64 0,.map none,.map none,.slice none 0 0] parts:=by kernel_rfl
theorem disk_build (s:Int) (g1 g2:Nat) (w:World):(Instr.build 152 #[(1,.int .i64 s),(2,.map (some g1)),(3,.map (some g2))]).run Tryz.prog w=.ok (.agg #[.int .i64 0,.bool false,.bool false,.int .i64 0,.slice none 0 0,.int .i64 s,.map (some g1),.map (some g2),.slice none 0 0]) w:=by
 apply run_build
 rw [built_disk]
 show Instr.fill _ _ [(1,_),(2,_),(3,_)]=_
 rw [fill_step (off:=5) (sz:=1) rfl rfl (by simp),fill_step (off:=6) (sz:=1) rfl rfl (by simp [Value.cells]),fill_step (off:=7) (sz:=1) rfl rfl (by simp [Value.cells])]
 rfl

theorem wfd_new {s:Int} (h:0≤s∧s≤67108864):WFD (newM s):=
 ⟨rfl,fun k=>by show OkDir _ (replay [] (([]:List ChM).take k));rw [List.take_nil];exact okDir_nil _,by simp [newM],by simp [newM],h⟩

theorem newDisk_spec (s:Int) (w:World):Calls Tryz.prog 55 #[.int .i64 s] w fun e w'=>(s<0∨67108864<s)∧e=.returned (.tuple #[.pointer none,errV (some 7)])∧w'=w∨¬(s<0∨67108864<s)∧∃gd,e=.returned (.tuple #[.pointer (some ⟨gd,0,none⟩),errV none])∧DiskIn w [] w' gd [] (newM s) []:=by
 apply disk_New_vc
 refine ⟨fun h=>.inl ⟨by simpa using h,rfl,rfl⟩,fun h=>?_⟩
 have hs:¬(s<0∨67108864<s):=by simp at h;omega
 have h1:=(St.start w).add (r:=.blk w.heap.size (.map #[] 0)) (Chg.alloc _ _) (heap_alloc_new w _) (by simp [Res.fp])
 obtain ⟨w1,hw1⟩:∃w1,w.alloc (.map #[] 0)=w1:=⟨_,rfl⟩
 rw [hw1] at h1
 have h2:=h1.add (r:=.blk w1.heap.size (.map #[] 0)) (Chg.alloc _ _) (heap_alloc_new w1 _) (by simp [Res.fp])
 obtain ⟨g,w3,r3,h3⟩:=h2.boxA (P:=Tryz.prog) 152 [.int .i64 0,.bool false,.bool false,.int .i64 0,.slice none 0 0,.int .i64 s,.map (some w.heap.size),.map (some w1.heap.size),.slice none 0 0]
 refine ⟨.map (some w.heap.size),w1,by rw [←hw1];rfl,.map (some w1.heap.size),_,rfl,_,disk_build s _ _ _,g,w3,r3,.inr ⟨hs,g,rfl,?_⟩⟩
 have h4:=(h3.addNil 164 3).add (r:=Res.emp) (Chg.refl _ _) (Res.emp_holds _) (by simp [Res.emp,Res.fp,Value.ownBlock])
 refine ⟨{ av:=0,fa:=none,fn:=0,fc:=0,gn:=w.heap.size,gs:=w1.heap.size,ca:=none,cc:=0,FL:=[],F:=Res.emp,esn:= #[],ckn:=0,Mn:=[],ess:= #[],cks:=0,Ms:=[] },rfl,⟨wfd_new (by omega),rfl,fun k hk=>(by cases hk),⟨rfl,Nat.le_refl _,.inl rfl,by simp [newM]⟩,MapE.nil _ _,MapIsA.nil,MapE.nil _ _,MapIsA.nil⟩,?_⟩
 refine h4.perm ?_
 show List.Perm [_,_,_,_,_] [_,_,_,_,_]
 refine List.Perm.trans (l₂:=[.blk w.heap.size (.map #[] 0),.arr g 152 [.int .i64 0,.bool false,.bool false,.int .i64 0,.slice none 0 0,.int .i64 s,.map (some w.heap.size),.map (some w1.heap.size),.slice none 0 0],.blk w1.heap.size (.map #[] 0),.row 164 3 (.slice none 0 0) 0 [],Res.emp]) (.cons _ (.swap _ _ _)) (.swap _ _ _)

end

end Go.Proofs.YtpmhjnhgpplmnaaGreatDoor
end

section
namespace Go.Proofs.YtpmhjnhgpplmnaaGreatDoor
open Go.Shelf
def keysD_ren:Go.Shelf.Ren:=⟨fun | 7=>174 | 10=>255 | n=>n,fun | 23=>149 | 26=>9 | 3=>162 | 28=>262 | 0=>0 | 27=>261 | 33=>75 | 4=>4 | n=>n,fun | n=>n⟩
theorem keysD:Go.Proofs.SlLaysZ.n7 Tryz.prog keysD_ren:= {
 mixed:=by kernel_rfl
 f7:=⟨Tryz.f174.name,by decide,Tryz.func174.trans (congrArg some (by kernel_rfl))⟩
 f10:=⟨Tryz.f255.name,by decide,Tryz.func255.trans (congrArg some (by kernel_rfl))⟩
 t0:=Tryz.underlying0
 a0:=Tryz.isAgg0
 z0:=Tryz.sizeOf0
 v0:=Tryz.zeroValue0
 t4:=Tryz.underlying4
 a4:=Tryz.isAgg4
 z4:=Tryz.sizeOf4
 v4:=Tryz.zeroValue4
 t23:=Tryz.underlying149
 a23:=Tryz.isAgg149
 z23:=Tryz.sizeOf149
 v23:=Tryz.zeroValue149
 t26:=Tryz.underlying9
 a26:=Tryz.isAgg9
 z26:=Tryz.sizeOf9
 v26:=Tryz.zeroValue9
 t27:=Tryz.underlying261
 a27:=Tryz.isAgg261
 z27:=Tryz.sizeOf261
 v27:=Tryz.zeroValue261
 t28:=Tryz.underlying262
 a28:=Tryz.isAgg262
 z28:=Tryz.sizeOf262
 v28:=Tryz.zeroValue262
 t33:=Tryz.underlying75
 a33:=Tryz.isAgg75
 z33:=Tryz.sizeOf75
 v33:=Tryz.zeroValue75 }
def sortedD_ren:Go.Shelf.Ren:=⟨fun | 6=>173 | 8=>253 | 9=>254 | 11=>311 | 13=>216 | 12=>312 | 23=>288 | 24=>274 | 14=>346 | 15=>347 | 16=>348 | 17=>349 | 18=>350 | 19=>351 | 20=>352 | 21=>353 | 22=>354 | 25=>370 | 26=>332 | 27=>333 | 28=>371 | 29=>372 | 30=>373 | 31=>379 | n=>n,fun | 26=>9 | 28=>262 | 24=>166 | 0=>0 | 3=>3 | 37=>299 | 48=>370 | 50=>42 | 4=>4 | 40=>376 | 39=>375 | 45=>73 | 5=>5 | 9=>9 | 51=>434 | 55=>438 | 57=>467 | 58=>315 | 33=>75 | n=>n,fun | n=>n⟩
theorem sortedD:Go.Proofs.SlLaysZ.n6 Tryz.prog sortedD_ren:= {
 mixed:=by kernel_rfl
 f6:=⟨Tryz.f173.name,by decide,Tryz.func173.trans (congrArg some (by kernel_rfl))⟩
 f8:=⟨Tryz.f253.name,by decide,Tryz.func253.trans (congrArg some (by kernel_rfl))⟩
 f11:=⟨Tryz.f311.name,by decide,Tryz.func311.trans (congrArg some (by kernel_rfl))⟩
 t0:=Tryz.underlying0
 a0:=Tryz.isAgg0
 z0:=Tryz.sizeOf0
 v0:=Tryz.zeroValue0
 t24:=Tryz.underlying166
 a24:=Tryz.isAgg166
 z24:=Tryz.sizeOf166
 v24:=Tryz.zeroValue166
 t26:=Tryz.underlying9
 a26:=Tryz.isAgg9
 z26:=Tryz.sizeOf9
 v26:=Tryz.zeroValue9
 t28:=Tryz.underlying262
 a28:=Tryz.isAgg262
 z28:=Tryz.sizeOf262
 v28:=Tryz.zeroValue262
 i26:=by kernel_rfl }
def sortD_ren:Go.Shelf.Ren:=⟨fun | 6=>254 | 8=>216 | 9=>312 | 19=>288 | 20=>274 | 21=>346 | 22=>347 | 23=>348 | 24=>349 | 25=>350 | 26=>351 | 27=>352 | 28=>353 | 29=>354 | 36=>370 | 31=>332 | 32=>333 | 37=>371 | 38=>372 | 39=>373 | 41=>379 | n=>n,fun | 27=>166 | 29=>9 | 3=>3 | 32=>299 | 26=>166 | 0=>0 | 44=>370 | 46=>42 | 4=>4 | 36=>376 | 35=>375 | 41=>73 | 5=>5 | 9=>9 | 53=>434 | 57=>438 | 63=>467 | 64=>315 | n=>n,fun | n=>n⟩
theorem sortD:Go.Proofs.SlLaysM.n6 Tryz.prog sortD_ren:= {
 mixed:=by kernel_rfl
 f6:=⟨Tryz.f254.name,by decide,Tryz.func254.trans (congrArg some (by kernel_rfl))⟩
 f8:=Tryz.func216.trans (congrArg some (by kernel_rfl))
 f9:=⟨Tryz.f312.name,by decide,Tryz.func312.trans (congrArg some (by kernel_rfl))⟩
 f19:=Tryz.func288.trans (congrArg some (by kernel_rfl))
 f20:=Tryz.func274.trans (congrArg some (by kernel_rfl))
 f21:=⟨Tryz.f346.name,by decide,Tryz.func346.trans (congrArg some (by kernel_rfl))⟩
 f22:=⟨Tryz.f347.name,by decide,Tryz.func347.trans (congrArg some (by kernel_rfl))⟩
 f23:=⟨Tryz.f348.name,by decide,Tryz.func348.trans (congrArg some (by kernel_rfl))⟩
 f24:=⟨Tryz.f349.name,by decide,Tryz.func349.trans (congrArg some (by kernel_rfl))⟩
 f25:=⟨Tryz.f350.name,by decide,Tryz.func350.trans (congrArg some (by kernel_rfl))⟩
 f26:=⟨Tryz.f351.name,by decide,Tryz.func351.trans (congrArg some (by kernel_rfl))⟩
 f27:=⟨Tryz.f352.name,by decide,Tryz.func352.trans (congrArg some (by kernel_rfl))⟩
 f28:=⟨Tryz.f353.name,by decide,Tryz.func353.trans (congrArg some (by kernel_rfl))⟩
 f29:=⟨Tryz.f354.name,by decide,Tryz.func354.trans (congrArg some (by kernel_rfl))⟩
 f31:=Tryz.func332.trans (congrArg some (by kernel_rfl))
 f32:=Tryz.func333.trans (congrArg some (by kernel_rfl))
 f36:=⟨Tryz.f370.name,by decide,Tryz.func370.trans (congrArg some (by kernel_rfl))⟩
 f37:=⟨Tryz.f371.name,by decide,Tryz.func371.trans (congrArg some (by kernel_rfl))⟩
 f38:=⟨Tryz.f372.name,by decide,Tryz.func372.trans (congrArg some (by kernel_rfl))⟩
 f39:=⟨Tryz.f373.name,by decide,Tryz.func373.trans (congrArg some (by kernel_rfl))⟩
 f41:=⟨Tryz.f379.name,by decide,Tryz.func379.trans (congrArg some (by kernel_rfl))⟩
 t0:=Tryz.underlying0
 a0:=Tryz.isAgg0
 z0:=Tryz.sizeOf0
 v0:=Tryz.zeroValue0
 t3:=Tryz.underlying3
 a3:=Tryz.isAgg3
 z3:=Tryz.sizeOf3
 v3:=Tryz.zeroValue3
 t4:=Tryz.underlying4
 a4:=Tryz.isAgg4
 z4:=Tryz.sizeOf4
 v4:=Tryz.zeroValue4
 t5:=Tryz.underlying5
 a5:=Tryz.isAgg5
 z5:=Tryz.sizeOf5
 v5:=Tryz.zeroValue5
 t9:=Tryz.underlying9
 a9:=Tryz.isAgg9
 z9:=Tryz.sizeOf9
 v9:=Tryz.zeroValue9
 t26:=Tryz.underlying166
 a26:=Tryz.isAgg166
 z26:=Tryz.sizeOf166
 v26:=Tryz.zeroValue166
 t27:=Tryz.underlying166
 a27:=Tryz.isAgg166
 z27:=Tryz.sizeOf166
 v27:=Tryz.zeroValue166
 t29:=Tryz.underlying9
 a29:=Tryz.isAgg9
 z29:=Tryz.sizeOf9
 v29:=Tryz.zeroValue9
 t32:=Tryz.underlying299
 a32:=Tryz.isAgg299
 z32:=Tryz.sizeOf299
 v32:=Tryz.zeroValue299
 t35:=Tryz.underlying375
 a35:=Tryz.isAgg375
 z35:=Tryz.sizeOf375
 v35:=Tryz.zeroValue375
 t36:=Tryz.underlying376
 a36:=Tryz.isAgg376
 z36:=Tryz.sizeOf376
 v36:=Tryz.zeroValue376
 t41:=Tryz.underlying73
 a41:=Tryz.isAgg73
 z41:=Tryz.sizeOf73
 v41:=Tryz.zeroValue73
 t44:=Tryz.underlying370
 a44:=Tryz.isAgg370
 z44:=Tryz.sizeOf370
 v44:=Tryz.zeroValue370
 t46:=Tryz.underlying42
 a46:=Tryz.isAgg42
 z46:=Tryz.sizeOf42
 v46:=Tryz.zeroValue42
 t53:=Tryz.underlying434
 a53:=Tryz.isAgg434
 z53:=Tryz.sizeOf434
 v53:=Tryz.zeroValue434
 t57:=Tryz.underlying438
 a57:=Tryz.isAgg438
 z57:=Tryz.sizeOf438
 v57:=Tryz.zeroValue438
 t63:=Tryz.underlying467
 a63:=Tryz.isAgg467
 z63:=Tryz.sizeOf467
 v63:=Tryz.zeroValue467
 t64:=Tryz.underlying315
 a64:=Tryz.isAgg315
 z64:=Tryz.sizeOf315
 v64:=Tryz.zeroValue315 }
end Go.Proofs.YtpmhjnhgpplmnaaGreatDoor
end

section
namespace Go.Proofs.YtpmhjnhgpplmnaaGreatDoor
open Go Sx Go.RowKit Go.Maps Go.Sort Go.Shelf
set_option maxRecDepth 8000

theorem lex_le:∀l m:List UInt8,lexLt l m=true→l≤m
 | [],[],h=>by simp [lexLt] at h
 | [],_::_,_=>List.nil_le _
 | _::_,[],h=>by simp [lexLt] at h
 | a::l,b::m,h=>by
   rw [List.cons_le_cons_iff]
   simp only [lexLt] at h
   split at h
   · rename_i h1
     exact .inl (UInt8.lt_iff_toNat_lt.2 h1)
   · rename_i h1
     split at h
     · cases h
     · rename_i h2
       have:a=b:=UInt8.toNat_inj.1 (by omega)
       exact .inr ⟨this,lex_le l m h⟩

theorem sort_names {d:Dir} (h:AscBy Ent.name d) {ss:List (List UInt8)} (hp:ss.Perm (d.map Ent.name)):ss.mergeSort (fun x y=>decide (x≤y))=d.map Ent.name:=by
 rw [show ss.mergeSort (fun x y=>decide (x≤y))=(d.map Ent.name).mergeSort (fun x y=>decide (x≤y)) from mergeSort_of_perm hp]
 refine List.mergeSort_of_pairwise ?_
 rw [List.pairwise_map]
 exact List.Pairwise.imp (fun {a b} hab=>by simpa using lex_le _ _ hab) h

def blindR (_:Value):Option (DataW Unit×List MemPlace):=some (.nil,[])
theorem keyOf_nm (e:Ent) (h:e.name.length≤64):keyOf Tryz.prog 9 (kyE e)=some (.string e.name):=by
 have h1:Tryz.prog.underlying 9=some .string:=Tryz.underlying9
 have h2:(⟨e.name.toArray⟩:ByteArray).size≤maxLen:=by show e.name.toArray.size≤_;simp [maxLen];omega
 simp only [keyOf,h1,kyE,strV,mapKey]
 simp [h2]

theorem owns_names {w:World} {g:Nat} {es:Array MapEntry} {ck:Nat} {gs:List Nat} {Mn d:Dir} (hE:MapE kyE (vlE gs) es ck Mn) (hD:MapIsA Ent.name Mn d) (hg:w.heap[g]?=some (.map es ck)) (hlen:Mn.length≤4096) (hn:∀e∈Mn,e.name.length≤64):
   ∃D:DataW Unit,w.ownsMap Tryz.prog 9 blindR g 4096 D∧(strKeys D).Perm (Mn.map Ent.name)∧Maps.size D=Mn.length:=by
 have hsz:=hE.len
 have hrd:∀x∈es.toList,∃r∈Mn,x.key=kyE r∧WideElems.rd Tryz.prog 9 blindR x=some (.string r.name,.nil):=by
   intro x hx
   obtain ⟨i,hi⟩:=List.getElem?_of_mem hx
   obtain ⟨r,h1,h2,h3⟩:=hE.at_ hi
   have hr:=List.mem_of_getElem? h1
   refine ⟨r,hr,h2,?_⟩
   unfold WideElems.rd
   rw [h2,keyOf_nm r (hn r hr)]
   rfl
 have hkeys:es.toList.map (fun x=>x.key)=Mn.map kyE:=by
   have:=congrArg (List.map Prod.fst) hE.ents
   rw [List.map_map,List.map_map] at this
   exact this
 have hnd:(Mn.map kyE).Nodup:=by
   have h1:Mn.Pairwise fun x y=>x.name≠y.name:=(hD.perm.pairwise_iff (fun {a b} (h:a.name≠b.name)=>h.symm)).2 (asc_ne hD.asc)
   rw [List.Nodup,List.pairwise_map]
   refine h1.imp fun {a b} h e=>h ?_
   have:strV a.name=strV b.name:=e
   exact encStr_inj this
 have F:WideElems.Fit Tryz.prog 9 blindR es ck:=⟨by rw [hsz];simp only [maxLen];omega,⟨hE.old,hE.born,by rw [hkeys];exact hnd⟩,fun x hx=>by obtain ⟨r,_,_,h⟩:=hrd x hx;exact ⟨_,h⟩⟩
 refine ⟨_,⟨es,ck,hg,F,by omega,rfl⟩,?_,?_⟩
 · show (((es.toList.map (WideElems.rg Tryz.prog 9 blindR)).foldr DataW.insert []).map fun p=>strOf p.1).Perm _
   refine ((WideShapes.sorted_perm _).map _).trans (List.Perm.of_eq ?_)
   rw [List.map_map]
   have e1:es.toList.map ((fun p:Lit×DataW Unit=>strOf p.1)∘WideElems.rg Tryz.prog 9 blindR)=es.toList.map fun x=>strOf ((keyOf Tryz.prog 9 x.key).getD (.bool false)):=by
     refine List.map_congr_left fun x hx=>?_
     obtain ⟨r,hr,hk,h⟩:=hrd x hx
     show strOf (WideElems.rg Tryz.prog 9 blindR x).1=_
     rw [WideElems.rg,h,hk,keyOf_nm r (hn r hr)]
     rfl
   rw [e1]
   have e2:es.toList.map (fun x=>strOf ((keyOf Tryz.prog 9 x.key).getD (.bool false)))=(es.toList.map fun x=>x.key).map fun k=>strOf ((keyOf Tryz.prog 9 k).getD (.bool false)):=by rw [List.map_map];rfl
   rw [e2,hkeys,List.map_map]
   refine List.map_congr_left fun r hr=>?_
   show strOf ((keyOf Tryz.prog 9 (kyE r)).getD (.bool false))=r.name
   rw [keyOf_nm r (hn r hr)]
   rfl
 · show ((es.toList.map (WideElems.rg Tryz.prog 9 blindR)).foldr DataW.insert []).length=_
   rw [(WideShapes.sorted_perm _).length_eq,List.length_map,Array.length_toList,hsz]

theorem sorts_nm (m:Nat):AnyZ.SortsIn Tryz.prog sortedD_ren Fence.wide m:=
 ⟨fun blk off cap ss W hH hblk hsz=>callsIn_wide.2 (AnyM.slices_Sort_string sortD blk off cap ss W hH hblk hsz),
  fun p cap W=>callsIn_wide.2 (AnyM.slices_Sort_string_none sortD p cap W)⟩

def namesM (m:DiskM):List Nm:=m.now.map Ent.name

section
variable {w0 w w':World} {X:List Nat} {N N':List Res} {gd:Nat} {ps:List Nat} {m:DiskM}

theorem list_spec {p:DP} (hp:DMem m p) (hS:St w0 X w (resD gd m p++DR p.FL N)):
   Calls Tryz.prog 80 #[.pointer (some ⟨gd,0,none⟩)] w fun e w'=>∃a c,e=.returned (.slice a (namesM m).length c)∧St w [] w' [.row 9 1 (.slice a (namesM m).length c) (namesM m).length ((namesM m).map strV)]:=by
 have hg:w.heap[p.gn]?=some (.map p.esn p.ckn):=hS.holds 1 _ rfl
 have hln:p.Mn.length≤4096:=by rw [hp.isn.perm.length_eq];exact hp.okn.len
 have hgood:∀e∈p.Mn,e.name.length≤64:=by
   intro e he
   have:=(hp.okn.ent e (hp.isn.perm.mem_iff.1 he)).2
   unfold goodN at this
   simp only [Bool.and_eq_true,decide_eq_true_eq] at this
   omega
 obtain ⟨D,hown,hperm,hsz⟩:=owns_names hp.mapn hp.isn hg hln hgood
 apply disk_Disk_List_vc
 have hbl:=hown.lt
 have hseq:SeqGives Fence.wide 2 Tryz.prog 255 #[.pointer (some ⟨w.heap.size,0,none⟩)] encStr (fun ss=>ss.Perm (strKeys D)) (Maps.size D) (w.alloc (.cells #[.map (some p.gn)] 149)):=
   AnyZ.keys_gives (ρ:=keysD_ren) { keysD with } Fence.wide _ trivial rfl (by omega) w.heap.size p.gn 4096 D _ (by simp) (by simp) (by
     obtain ⟨es,clock,hb,Ft,hs,hD⟩:=hown
     exact ⟨es,clock,(Below.heap_alloc _ _ p.gn hbl).trans hb,Ft,hs,hD⟩)
 have cK:Calls Tryz.prog 174 #[.map (some p.gn)] w fun e w'=>e=.returned (.func (.func 255) #[] #[.pointer (some ⟨w.heap.size,0,none⟩)])∧w'=w.alloc (.cells #[.map (some p.gn)] 149):=callsIn_wide.1 (AnyZ.keys_in keysD Fence.wide 5 trivial rfl (some p.gn) w)
 have cS:=AnyZ.sorted_in sortedD Fence.wide 5 trivial trivial trivial trivial rfl (by omega) (sorts_nm _) (enters_of Tryz.func254 (by kernel_rfl) rfl) 255 #[.pointer (some ⟨w.heap.size,0,none⟩)] trivial (enters_of Tryz.func255 (by kernel_rfl) rfl) _ _ (by rw [hsz];simp only [maxLen];omega) (by rw [hsz];omega) _ hseq
 change CallsIn _ _ Tryz.prog 173 _ _ _ at cS
 refine ⟨_,hS.ldL (i:=0) (o:=6) rfl (dirA _) rfl rfl,cK.mono ?_⟩
 rintro e w1 ⟨rfl,rfl⟩
 refine ⟨_,rfl,(callsIn_wide.1 cS).mono ?_⟩
 rintro e w2 ⟨v,ss,rfl,hS',hrow,hnil,hb⟩
 have hss:ss.Perm (m.now.map Ent.name):=(hS'.trans hperm).trans (hp.isn.perm.map _)
 have hsort:=sort_names hp.okn.asc hss
 have hlen:ss.length=(namesM m).length:=by rw [hss.length_eq];rfl
 rw [hsort,hlen] at hrow
 have hb':Below w.heap.size w w2:=((Below.refl _ w).alloc (Nat.le_refl _) _).trans (hb.mono (by simp))
 have hrow':w2.ownsRow w.heap.size 9 1 v (namesM m).length ((namesM m).map strV):=ownsRow_base hrow (by simp)
 have hst:St w [] w2 [.row 9 1 v (namesM m).length ((namesM m).map strV)]:=(St.start w).add (Chg.of_below hb') (ownsRow_base hrow' (Nat.zero_le _)) (fun k hk=>(World.ownsRow.lt hrow' k (by simpa [Res.fp] using hk)).1)
 rcases hrow'.2 with ⟨rfl,hz⟩ | ⟨g,cap,cur,rfl,_⟩
 · refine ⟨none,0,0,rfl,none,0,by rw [hz],?_⟩
   rw [hz] at hst ⊢
   exact hst
 · exact ⟨_,_,_,rfl,_,_,rfl,hst⟩

end

end Go.Proofs.YtpmhjnhgpplmnaaGreatDoor
end

section
namespace Go.Proofs.YtpmhjnhgpplmnaaGreatDoor
open Go Sx
set_option maxRecDepth 8000

section
variable {w0 w w':World} {X:List Nat} {N N':List Res} {gd:Nat} {ps:List Nat} {m:DiskM}

end

theorem Sx.St.ldP {P:Program} {w0 w:World} {X:List Nat} {M:List Res} (h:St w0 X w M) {i g o n:Nat} {l xs:List Value} {T' T:TypeId} (hi:M[i]?=some (.arr g T' l)) (hA:(isAgg T).run P w=.ok true w) (hS:(sizeOf T).run P w=.ok n w) (hx:(l.drop o).take n=xs) (hl:xs.length=n):
   (Instr.loadAt T (.pointer (some ⟨g,o,none⟩))).run P w=.ok (.agg xs.toArray) w:=by
 have hr:=h.cellsA hi
 have hrange:w.rangeAt g o xs:=by
   intro k v hk
   have hk3:k<n:=by have:=(List.getElem?_eq_some_iff.1 hk).1;omega
   rw [←hx,List.getElem?_take,if_pos hk3,List.getElem?_drop] at hk
   have:=hr _ _ hk
   rw [Nat.zero_add] at this
   exact this
 have:=loadCells_cells (P:=P) hrange
 rw [hl] at this
 simp [Instr.loadAt,Instr.sureAddr,loadVar,hA,hS,this]

end Go.Proofs.YtpmhjnhgpplmnaaGreatDoor
end

section
namespace Go.Proofs.YtpmhjnhgpplmnaaGreatDoor
open Go Sx
set_option maxRecDepth 8000

theorem strCD (l:List UInt8):(⟨l.toArray⟩:ByteArray).toList=l:=by rw [ByteArray.toList_eq]
theorem geqC (l m:List UInt8) (x y:Operand) (w:World):(eqlS .geq 9 x y (.string ⟨l.toArray⟩) (.string ⟨m.toArray⟩)).run Tryz.prog w=.ok (.bool (!lexLt l m)) w:=by
 have h3:(eqGuard .geq 9 x y (.string ⟨l.toArray⟩) (.string ⟨m.toArray⟩)).run Tryz.prog w=.ok () w:=rfl
 have h4:binOp .geq 9 (.string ⟨l.toArray⟩) (.string ⟨m.toArray⟩)=pure (.bool (!lexLt l m)):=by
   have:binOp .geq 9 (.string ⟨l.toArray⟩) (.string ⟨m.toArray⟩)=pure (.bool (!Op.bytesLess (⟨l.toArray⟩:ByteArray).toList (⟨m.toArray⟩:ByteArray).toList)):=by simp [binOp,Op.stringOp]
   rw [this,strCD,strCD,less_lex]
 simp only [eqlS,Sem.run_bind,h3,Result.andThen_ok,h4,Sem.run_pure]

theorem snZ (w:World):(zeroValue 89).run Tryz.prog w=.ok (.agg ([strV [],.int .i64 0,.int .i64 0,.int .i64 0]++bv (List.replicate 32 0)).toArray) w:=Tryz.zeroValue89 w
theorem snA (w:World):(isAgg 89).run Tryz.prog w=.ok true w:=Tryz.isAgg89 w
theorem snS (w:World):(sizeOf 89).run Tryz.prog w=.ok 36 w:=Tryz.sizeOf89 w
theorem pqZ (w:World):(zeroValue 91).run Tryz.prog w=.ok (.agg ([.int .i64 0,.int .i64 0,.int .i64 0]:List Value).toArray) w:=Tryz.zeroValue91 w
theorem pqA (w:World):(isAgg 91).run Tryz.prog w=.ok true w:=Tryz.isAgg91 w
theorem pqS (w:World):(sizeOf 91).run Tryz.prog w=.ok 3 w:=Tryz.sizeOf91 w
theorem seA (w:World):(isAgg 44).run Tryz.prog w=.ok true w:=Tryz.isAgg44 w
theorem seS (w:World):(sizeOf 44).run Tryz.prog w=.ok 5 w:=Tryz.sizeOf44 w
theorem ssA (w:World):(isAgg 25).run Tryz.prog w=.ok false w:=Tryz.isAgg25 w
theorem psA (w:World):(isAgg 45).run Tryz.prog w=.ok false w:=Tryz.isAgg45 w

set_option maxHeartbeats 4000000 in
theorem catCheck_spec (C:CatD) (sa:Option Addr) (sn sc:Nat) (pa:Option Addr) (pn pc:Nat) (w:World) (h:CatR w C sa sn sc pa pn pc):
   Calls Tryz.prog 38 #[.agg (catC C sa sn sc pa pn pc).toArray] w fun e w'=>e=.returned (errV (if checkB C then none else some 28))∧Chg [] w w':=by
 obtain ⟨mI,hI⟩:=eI
 have hsn:C.snaps.length=sn:=h.snaps.num (by decide)
 have hpn:C.packs.length=pn:=h.packs.num (by decide)
 apply catalog_Check_vc
 obtain ⟨g,w1,r1,k1⟩:=(St.start w).boxA (P:=Tryz.prog) 47 (catC C sa sn sc pa pn pc)
 let K:World→Prop:=fun w'=>St w [] w' [.arr g 47 (catC C sa sn sc pa pn pc)]
 have k1:K w1:=k1
 have ldI:∀ {w'} (o:Nat) (z:Int),(catC C sa sn sc pa pn pc)[o]?=some (.int .i64 z)→K w'→(Instr.loadAt 3 (.pointer (some ⟨g,o,none⟩))).run Tryz.prog w'=.ok (.int .i64 z) w':=fun o z hz h=>by
   have:=Sx.St.ldL h (i:=0) (o:=o) rfl (p64A _) rfl hz
   exact this
 refine ⟨g,w1,r1,fun b w'=>b= !headB C∧K w',⟨_,ldI 0 _ rfl k1,fun h1=>⟨?_,k1⟩,fun h1=>⟨_,ldI 0 _ rfl k1,fun h2=>⟨?_,k1⟩,fun h2=>⟨_,ldI 1 _ rfl k1,fun h3=>⟨?_,k1⟩,fun h3=>⟨_,ldI 1 _ rfl k1,fun h4=>⟨?_,k1⟩,fun h4=>⟨_,k1.ldP (i:=0) (o:=2) (n:=5) (xs:=setC C.set) rfl (seA _) (seS _) rfl rfl,(rabinCheck_spec C.set h.poly w1).mono ?_⟩⟩⟩⟩⟩,?_⟩
 · simp only [decide_eq_true_eq] at h1
   rw [headB,decide_eq_false (by omega:¬1≤C.gen)];rfl
 · simp only [decide_eq_true_eq] at h2
   rw [headB,decide_eq_false (by omega:¬C.gen≤1099511627776)];simp
 · simp only [decide_eq_true_eq] at h3
   rw [headB,decide_eq_false (by omega:¬0≤C.next)];simp
 · simp only [decide_eq_true_eq] at h4
   rw [headB,decide_eq_false (by omega:¬C.next≤1099511627776)];simp
 · rintro e w2 ⟨rfl,c2⟩
   have k2:K w2:=Sx.St.same k1 c2
   simp only [decide_eq_false_iff_not] at h1 h2 h3 h4
   have hg4:headB C=(goodSet C.set&&(decide (C.snaps.length≤64)&&decide (C.packs.length≤1024))):=by
     rw [headB,decide_eq_true (by omega:1≤C.gen),decide_eq_true (by omega:C.gen≤1099511627776),decide_eq_true (by omega:0≤C.next),decide_eq_true (by omega:C.next≤1099511627776)];rfl
   refine ⟨_,rfl,_,neqS_nil hI _ _ _,fun h5=>⟨?_,k2⟩,fun h5=>⟨_,_,_,k2.ldL (i:=0) (o:=7) rfl (ssA _) rfl rfl,fun h6=>⟨?_,k2⟩,fun h6=>⟨_,_,_,k2.ldL (i:=0) (o:=8) rfl (psA _) rfl rfl,?_,k2⟩⟩⟩
   · rw [hg4]
     cases hg:goodSet C.set
     · rfl
     · rw [hg] at h5;simp at h5
   · simp only [decide_eq_true_eq] at h6
     rw [hg4,decide_eq_false (by omega:¬C.snaps.length≤64)];simp
   · simp only [decide_eq_false_iff_not] at h6
     have hg:goodSet C.set=true:=by
       cases hg:goodSet C.set
       · rw [hg] at h5;simp at h5
       · rfl
     rw [hg4,hg,decide_eq_true (by omega:C.snaps.length≤64),Bool.true_and,Bool.true_and,←decide_not]
     exact decide_eq_decide.2 (by omega)
 rintro b w3 ⟨rfl,k3⟩
 refine ⟨fun hb=>⟨?_,k3.chg⟩,fun hb=>?_⟩
 · have:checkB C=false:=by simp only [Bool.not_eq_true'] at hb;rw [checkB,hb];rfl
   rw [this];rfl
 have hH:headB C=true:=by simpa using hb
 have hs64:C.snaps.length≤64∧C.packs.length≤1024:=by
   simp only [headB,Bool.and_eq_true,decide_eq_true_eq] at hH
   exact hH.2.2
 have hck:checkB C=(C.snaps.all goodSnap&&(ascB C.snaps&&pksB C.next (-1) C.packs)):=by rw [checkB,hH];rfl
 refine ⟨_,_,_,k3.ldL (i:=0) (o:=7) rfl (ssA _) rfl rfl,fun x w'=>∃i:Nat,x=(i:Int)∧i≤sn∧(C.snaps.take i).all goodSnap=true∧(List.range i).all (ascAt C.snaps)=true∧K w',fun x _=>sn-x.toNat,⟨0,rfl,by omega,by simp,by simp,k3⟩,?_⟩
 rintro x w4 ⟨i,rfl,hi,hG,hA,k4⟩
 refine ⟨fun hlt=>?_,fun hge=>?_⟩
 · have hi':i<sn:=by simp at hlt;omega
   obtain ⟨s,hs⟩:∃s,C.snaps[i]?=some s:=⟨_,List.getElem?_eq_getElem (by omega)⟩
   obtain ⟨b1,o1,ha1,ld1'⟩:=h.snaps.ld (P:=Tryz.prog) (by decide) snA snS hs
   obtain ⟨g4,w5,r5,k5⟩:=Sx.St.zeroA k4 snZ
   obtain ⟨w6,r6,k6⟩:=Sx.St.stA k5 (i:=1) (v:=snapC s) rfl (snS _) (by simp) (snapC_len s) (snapC_one s)
   let S:World→Prop:=fun w'=>St w [] w' [.arr g 47 (catC C sa sn sc pa pn pc),.arr g4 89 (snapC s)]
   have k6:S w6:=k6
   have k6d:S w6.drew:=Sx.St.drew k6
   have toK:∀ {w'},S w'→K w':=fun hw=>Sx.St.sub hw (by simp)
   refine ⟨b1,o1,ha1,by omega,by omega,_,ld1' w4 (h.snaps.keep0 k4.chg),g4,w5,r5,w6,r6,fun b w'=>b= !(goodSnap s&&ascAt C.snaps i)∧S w',⟨S,k6d,_,fun w' hw=>Sx.St.ldA hw (i:=1) (l:=snapC s) rfl (snA _) (snS _) (snapC_len s),(goodSnap_spec s (h.names s (List.mem_of_getElem? hs)) w6.drew).mono ?_⟩,?_⟩
   · rintro e w7 ⟨rfl,c7⟩
     have k7:S w7:=Sx.St.same k6d c7
     refine ⟨_,rfl,S,fun _ h=>h,k7,fun hb=>⟨?_,k7⟩,fun hb=>⟨fun h0=>?_,fun h0=>⟨?_,k7⟩⟩⟩
     · simp only [Bool.not_eq_true'] at hb
       rw [hb];rfl
     · have hi0:0<i:=by simp at h0;omega
       have hgs:goodSnap s=true:=by simpa using hb
       obtain ⟨t,ht⟩:∃t,C.snaps[i-1]?=some t:=⟨_,List.getElem?_eq_getElem (by omega)⟩
       have eW:IntKind.wrap .i64 ((i:Int)-1)=((i-1:Nat):Int):=by rw [wrap_i64 (by omega) (by omega)];omega
       obtain ⟨b2,o2,ha2,ld2⟩:=h.snaps.fld (P:=Tryz.prog) (by decide) snStr (j:=0) ht rfl
       rw [eW]
       refine ⟨_,_,_,fun w' hw=>Sx.St.ldL hw (i:=0) (o:=7) rfl (ssA _) rfl rfl,b2,o2,ha2,by omega,by omega,_,fun w' hw=>ld2 w' (h.snaps.keep0 (Sx.St.chg hw)),_,fun w' hw=>Sx.St.ldL hw (i:=1) (o:=0) rfl (snStr _) rfl rfl,_,fun w' _=>geqC t.name s.name _ _ w',?_,k7⟩
       have hat:ascAt C.snaps i=lexLt t.name s.name:=by
         have:(i==0)=false:=by simp;omega
         rw [ascAt,this,ht,hs];rfl
       rw [hgs,hat];rfl
     · have hi0:i=0:=by simp at h0;omega
       have hgs:goodSnap s=true:=by simpa using hb
       subst hi0
       rw [hgs];rfl
   · rintro b w8 ⟨rfl,k8⟩
     refine ⟨fun hb=>⟨?_,k8.chg⟩,fun hb=>⟨⟨i+1,wrap_succ hi' (by omega),by omega,?_,?_,toK k8⟩,mu_succ hi' (by omega)⟩⟩
     · have hf:(goodSnap s&&ascAt C.snaps i)=false:=by simpa only [Bool.not_eq_true'] using hb
       have:checkB C=false:=by
         rw [hck]
         rcases Bool.and_eq_false_iff.1 hf with h1 | h1
         · have:C.snaps.all goodSnap=false:=by
             rw [List.all_eq_false]
             exact ⟨s,List.mem_of_getElem? hs,by rw [h1];simp⟩
           rw [this];rfl
         · have:ascB C.snaps=false:=by
             rw [ascB,List.all_eq_false]
             exact ⟨i,List.mem_range.2 (by omega),by rw [h1];simp⟩
           rw [this];simp
       rw [this];rfl
     · have ht:(goodSnap s&&ascAt C.snaps i)=true:=by simpa only [Bool.not_eq_false'] using hb
       rw [List.take_add_one,hs]
       simp only [Option.toList_some,List.all_append,List.all_cons,List.all_nil,Bool.and_true]
       rw [hG,(Bool.and_eq_true_iff.1 ht).1];rfl
     · have ht:(goodSnap s&&ascAt C.snaps i)=true:=by simpa only [Bool.not_eq_false'] using hb
       rw [List.range_succ]
       simp only [List.all_append,List.all_cons,List.all_nil,Bool.and_true]
       rw [hA,(Bool.and_eq_true_iff.1 ht).2];rfl
 · have hi':i=sn:=by simp at hge;omega
   have hG':C.snaps.all goodSnap=true:=by rw [hi',←hsn,List.take_length] at hG;exact hG
   have hA':ascB C.snaps=true:=by rw [hi',←hsn] at hA;exact hA
   refine ⟨_,_,_,k4.ldL (i:=0) (o:=8) rfl (psA _) rfl rfl,fun z x w'=>∃j:Nat,x=(j:Int)∧j≤pn∧pksB C.next (-1) C.packs=pksB C.next z (C.packs.drop j)∧K w',fun _ x _=>pn-x.toNat,⟨0,rfl,by omega,by simp,k4⟩,?_⟩
   rintro z x w9 ⟨j,rfl,hj,hP,k9⟩
   refine ⟨fun hlt=>?_,fun hge=>?_⟩
   · have hj':j<pn:=by simp at hlt;omega
     obtain ⟨p,hp⟩:∃p,C.packs[j]?=some p:=⟨_,List.getElem?_eq_getElem (by omega)⟩
     have hdr:C.packs.drop j=p::C.packs.drop (j+1):=by
       rw [List.drop_eq_getElem_cons (by omega)]
       congr 1
       rw [List.getElem?_eq_getElem (by omega)] at hp
       exact Option.some.inj hp
     obtain ⟨b1,o1,ha1,ldp⟩:=h.packs.ld (P:=Tryz.prog) (by decide) pqA pqS hp
     obtain ⟨g7,w10,r10,k10⟩:=Sx.St.zeroA k9 pqZ
     obtain ⟨w11,r11,k11⟩:=Sx.St.stA k10 (i:=1) (v:=pkC p) rfl (pqS _) (by simp) rfl (fun v hv=>by simp [pkC] at hv;rcases hv with rfl | rfl | rfl<;>rfl)
     let S:World→Prop:=fun w'=>St w [] w' [.arr g 47 (catC C sa sn sc pa pn pc),.arr g7 91 (pkC p)]
     have k11:S w11:=k11
     have ldQ:∀(o:Nat) (z:Int),(pkC p)[o]?=some (.int .i64 z)→∀ {w'},S w'→(Instr.loadAt 3 (.pointer (some ⟨g7,o,none⟩))).run Tryz.prog w'=.ok (.int .i64 z) w':=fun o z hz {w'} hw=>by
       have:=Sx.St.ldL hw (i:=1) (o:=o) rfl (p64A _) rfl hz
       exact this
     let okp:Bool:=decide (z<p.num)&&(decide (p.num<C.next)&&(decide (0≤p.size)&&decide (0≤p.count)))
     refine ⟨b1,o1,ha1,by omega,by omega,_,ldp w9 (h.packs.keep0 k9.chg),g7,w10,r10,w11,r11,fun b w'=>b= !(decide (z<p.num)&&(decide (p.num<C.next)&&(decide (0≤p.size)&&decide (0≤p.count))))∧S w',⟨_,ldQ 0 _ rfl k11,fun h1=>⟨?_,k11⟩,fun h1=>⟨_,ldQ 0 _ rfl k11,_,ldI 1 _ rfl (Sx.St.sub k11 (by simp)),fun h2=>⟨?_,k11⟩,fun h2=>⟨_,ldQ 1 _ rfl k11,fun h3=>⟨?_,k11⟩,fun h3=>⟨_,ldQ 2 _ rfl k11,?_,k11⟩⟩⟩⟩,?_⟩
     · simp only [decide_eq_true_eq] at h1
       rw [decide_eq_false (by omega:¬z<p.num)];rfl
     · simp only [decide_eq_true_eq,ge_iff_le] at h2
       rw [decide_eq_false (by omega:¬p.num<C.next)];simp
     · simp only [decide_eq_true_eq] at h3
       rw [decide_eq_false (by omega:¬0≤p.size)];simp
     · simp only [decide_eq_false_iff_not,ge_iff_le] at h1 h2 h3
       rw [decide_eq_true (by omega:z<p.num),decide_eq_true (by omega:p.num<C.next),decide_eq_true (by omega:0≤p.size),Bool.true_and,Bool.true_and,Bool.true_and,←decide_not]
       exact decide_eq_decide.2 (by omega)
     · rintro b w12 ⟨rfl,k12⟩
       rw [hdr,pksB] at hP
       refine ⟨fun hb=>⟨?_,k12.chg⟩,fun hb=>⟨_,ldQ 0 _ rfl k12,⟨j+1,wrap_succ hj' (by omega),by omega,?_,Sx.St.sub k12 (by simp)⟩,mu_succ hj' (by omega)⟩⟩
       · simp only [Bool.not_eq_true'] at hb
         have:checkB C=false:=by rw [hck,hP,hb];simp
         rw [this];rfl
       · simp only [Bool.not_eq_false'] at hb
         rw [hP,hb];rfl
   · have hj':j=pn:=by simp at hge;omega
     refine ⟨?_,k9.chg⟩
     have:checkB C=true:=by
       rw [hck,hG',hA',hP,hj',←hpn,List.drop_length];rfl
     rw [this];rfl

end Go.Proofs.YtpmhjnhgpplmnaaGreatDoor
end

section
namespace Go.Proofs.YtpmhjnhgpplmnaaGreatDoor
open Go Sx
set_option maxRecDepth 8000

theorem lssC (l m:List UInt8) (x y:Operand) (w:World):(eqlS .lss 9 x y (.string ⟨l.toArray⟩) (.string ⟨m.toArray⟩)).run Tryz.prog w=.ok (.bool (lexLt l m)) w:=by
 have h3:(eqGuard .lss 9 x y (.string ⟨l.toArray⟩) (.string ⟨m.toArray⟩)).run Tryz.prog w=.ok () w:=rfl
 have h4:binOp .lss 9 (.string ⟨l.toArray⟩) (.string ⟨m.toArray⟩)=pure (.bool (lexLt l m)):=by
   have:binOp .lss 9 (.string ⟨l.toArray⟩) (.string ⟨m.toArray⟩)=pure (.bool (Op.bytesLess (⟨l.toArray⟩:ByteArray).toList (⟨m.toArray⟩:ByteArray).toList)):=by simp [binOp,Op.stringOp]
   rw [this,strCD,strCD,less_lex]
 simp only [eqlS,Sem.run_bind,h3,Result.andThen_ok,h4,Sem.run_pure]
def numAt (l:List PkD) (j:Nat):Int:=((l[j]?).map PkD.num).getD 0
def pkOne (next:Int) (p:PkD):Bool:=decide (p.num≥0)&&(decide (p.num<next)&&(decide (p.size≥0)&&decide (p.count≥0)))
def pkAt (l:List PkD) (next:Int) (j:Nat):Bool:=(match l[j]? with | some p=>pkOne next p | none=>false)&&(j==0||decide (numAt l (j-1)<numAt l j))
def lastAt (l:List PkD) (j:Nat):Int:=if j=0 then-1 else numAt l (j-1)
theorem pks_upto (l:List PkD) (next:Int):∀j,j≤l.length→pksB next (-1) l=((List.range j).all (pkAt l next)&&pksB next (lastAt l j) (l.drop j))
 | 0,_=>by simp [lastAt]
 | j+1,h=>by
   have ih:=pks_upto l next j (by omega)
   obtain ⟨p,hp⟩:∃p,l[j]?=some p:=⟨_,List.getElem?_eq_getElem (by omega)⟩
   have hdr:l.drop j=p::l.drop (j+1):=by
     rw [List.drop_eq_getElem_cons (by omega)]
     congr 1
     rw [List.getElem?_eq_getElem (by omega)] at hp
     exact Option.some.inj hp
   have hnum:numAt l j=p.num:=by rw [numAt,hp];rfl
   have hl:lastAt l (j+1)=p.num:=by rw [lastAt,if_neg (by omega),Nat.add_sub_cancel,hnum]
   rw [ih,hdr,pksB,hl,List.range_succ]
   simp only [List.all_append,List.all_cons,List.all_nil,Bool.and_true]
   cases hA:(List.range j).all (pkAt l next)
   · rfl
   simp only [Bool.true_and]
   rw [←Bool.and_assoc]
   congr 1
   have hpk:pkAt l next j=(pkOne next p&&(j==0||decide (numAt l (j-1)<p.num))):=by rw [pkAt,hp,hnum]
   rw [hpk,pkOne]
   by_cases hj:j=0
   · subst hj
     rw [lastAt,if_pos rfl]
     have:decide ((-1:Int)<p.num)=decide (p.num≥0):=decide_eq_decide.2 (by omega)
     rw [this];simp [ge_iff_le,Bool.and_assoc]
   · rw [lastAt,if_neg hj]
     have h0:0≤numAt l (j-1):=by
       have:=List.all_eq_true.1 hA (j-1) (List.mem_range.2 (by omega))
       obtain ⟨q,hq⟩:∃q,l[j-1]?=some q:=⟨_,List.getElem?_eq_getElem (by omega)⟩
       have e:pkAt l next (j-1)=(pkOne next q&&(j-1==0||decide (numAt l (j-1-1)<numAt l (j-1)))):=by rw [pkAt,hq]
       rw [e,pkOne] at this
       simp only [Bool.and_eq_true,decide_eq_true_eq] at this
       rw [numAt,hq];exact this.1.1
     have hb:(j==0)=false:=by simp;exact hj
     rw [hb]
     rw [Bool.eq_iff_iff]
     simp only [Bool.and_eq_true,Bool.false_or,decide_eq_true_eq]
     constructor
     · rintro ⟨⟨a,b⟩,c,d⟩;exact ⟨⟨by omega,b,c,d⟩,a⟩
     · rintro ⟨⟨_,b,c,d⟩,a⟩;exact ⟨⟨a,b⟩,c,d⟩

def hdA (C:CatD):Bool:=(decide (C.gen≥1)&&(decide (C.gen≤1099511627776)&&(decide (C.next≥0)&&decide (C.next≤1099511627776))))&&(decide (C.snaps.length≤64)&&decide (C.packs.length≤1024))
theorem headB_A (C:CatD):headB C=(hdA C&&goodSet C.set):=by
 unfold headB hdA
 simp only [ge_iff_le]
 cases goodSet C.set<;>simp
theorem checkB_A (C:CatD):checkB C=(headB C&&((C.snaps.all goodSnap&&ascB C.snaps)&&(List.range C.packs.length).all (pkAt C.packs C.next))):=by
 have:=pks_upto C.packs C.next C.packs.length (Nat.le_refl _)
 rw [List.drop_length] at this
 rw [checkB,this,pksB,Bool.and_true,Bool.and_assoc]

end Go.Proofs.YtpmhjnhgpplmnaaGreatDoor
end

section
namespace Go.Proofs.YtpmhjnhgpplmnaaGreatDoor
open Go Sx
set_option maxRecDepth 8000

set_option maxHeartbeats 4000000 in
theorem rcheck16_spec (C:CatD) (sa:Option Addr) (sn sc:Nat) (pa:Option Addr) (pn pc:Nat) (w:World) (h:CatR w C sa sn sc pa pn pc):
   Calls Tryz.prog 102 #[.agg (catC C sa sn sc pa pn pc).toArray] w fun e w'=>e=.returned (.int .i64 (if checkB C then 0 else 28))∧Chg [] w w':=by
 have hsn:C.snaps.length=sn:=h.snaps.num (by decide)
 have hpn:C.packs.length=pn:=h.packs.num (by decide)
 have eS:∀k:Int,decide ((sn:Int)≤k)=decide ((C.snaps.length:Int)≤k):=fun k=>by rw [hsn]
 apply amphoraref16_Check_vc
 obtain ⟨g,w1,r1,k1⟩:=(St.start w).boxA (P:=Tryz.prog) 47 (catC C sa sn sc pa pn pc)
 let K:World→Prop:=fun w'=>St w [] w' [.arr g 47 (catC C sa sn sc pa pn pc)]
 have k1:K w1:=k1
 have ldI:∀ {w'} (o:Nat) (z:Int),(catC C sa sn sc pa pn pc)[o]?=some (.int .i64 z)→K w'→(Instr.loadAt 3 (.pointer (some ⟨g,o,none⟩))).run Tryz.prog w'=.ok (.int .i64 z) w':=fun o z hz h=>by
   have:=Sx.St.ldL h (i:=0) (o:=o) rfl (p64A _) rfl hz
   exact this
 have ldS:∀ {w'},K w'→(Instr.loadAt 25 (.pointer (some ⟨g,7,none⟩))).run Tryz.prog w'=.ok (.slice sa sn sc) w':=fun hw=>Sx.St.ldL hw (i:=0) (o:=7) rfl (ssA _) rfl rfl
 have ldK:∀ {w'},K w'→(Instr.loadAt 45 (.pointer (some ⟨g,8,none⟩))).run Tryz.prog w'=.ok (.slice pa pn pc) w':=fun hw=>Sx.St.ldL hw (i:=0) (o:=8) rfl (psA _) rfl rfl
 have n1:decide ((sn:Int)≤64)=decide (C.snaps.length≤64):=decide_eq_decide.2 (by omega)
 have n2:decide ((pn:Int)≤1024)=decide (C.packs.length≤1024):=decide_eq_decide.2 (by omega)
 refine ⟨g,w1,r1,fun b w'=>b=hdA C∧K w',⟨_,ldI 0 _ rfl k1,fun h1=>⟨_,ldI 0 _ rfl k1,fun h2=>⟨_,ldI 1 _ rfl k1,fun h3=>⟨_,ldI 1 _ rfl k1,fun h4=>⟨_,_,_,ldS k1,fun h5=>⟨_,_,_,ldK k1,?_,k1⟩,fun h5=>⟨?_,k1⟩⟩,fun h4=>⟨?_,k1⟩⟩,fun h3=>⟨?_,k1⟩⟩,fun h2=>⟨?_,k1⟩⟩,fun h1=>⟨?_,k1⟩⟩,?_⟩
 · rw [n1] at h5;rw [hdA,h1,h2,h3,h4,h5,n2];rfl
 · rw [n1] at h5;rw [hdA,h5];simp
 · rw [hdA,h4];simp
 · rw [hdA,h3];simp
 · rw [hdA,h2];simp
 · rw [hdA,h1];rfl
 rintro b w2 ⟨rfl,k2⟩
 refine ⟨fun b w'=>b= !headB C∧K w',⟨fun hb=>⟨?_,k2⟩,fun hb=>⟨_,k2.ldP (i:=0) (o:=2) (n:=5) (xs:=setC C.set) rfl (seA _) (seS _) rfl rfl,(rcheck7_spec C.set h.poly w2).mono ?_⟩⟩,?_⟩
 · simp only [Bool.not_eq_true'] at hb
   rw [headB_A,hb];rfl
 · rintro e w3 ⟨rfl,c3⟩
   simp only [Bool.not_eq_false'] at hb
   refine ⟨_,rfl,?_,Sx.St.same k2 c3⟩
   rw [headB_A,hb]
   cases goodSet C.set<;>rfl
 rintro b w4 ⟨rfl,k4⟩
 refine ⟨fun hb=>⟨?_,k4.chg⟩,fun hb=>?_⟩
 · simp only [Bool.not_eq_true'] at hb
   rw [checkB_A,hb];rfl
 have hH:headB C=true:=by simpa using hb
 have hA1:hdA C=true:=by rw [headB_A] at hH;exact (Bool.and_eq_true_iff.1 hH).1
 have hs64:C.snaps.length≤64∧C.packs.length≤1024:=by
   simp only [hdA,Bool.and_eq_true,decide_eq_true_eq] at hA1
   exact hA1.2
 have hck:=checkB_A C
 rw [hH,Bool.true_and] at hck
 rw [hA1]
 refine ⟨fun b x w'=>∃i:Nat,x=(i:Int)∧i≤sn∧b=((C.snaps.take i).all goodSnap&&(List.range i).all (ascAt C.snaps))∧K w',fun _ x _=>sn-x.toNat,⟨0,rfl,by omega,by simp,k4⟩,?_⟩
 rintro b x w5 ⟨i,rfl,hi,rfl,k5⟩
 refine ⟨_,_,_,ldS k5,fun hlt=>?_,fun hge=>?_⟩
 · have hi':i<sn:=by simp at hlt;omega
   obtain ⟨s,hs⟩:∃s,C.snaps[i]?=some s:=⟨_,List.getElem?_eq_getElem (by omega)⟩
   obtain ⟨b1,o1,ha1,ld1'⟩:=h.snaps.ld (P:=Tryz.prog) (by decide) snA snS hs
   obtain ⟨g5,w6,r6,k6⟩:=Sx.St.zeroA k5 snZ
   obtain ⟨w7,r7,k7⟩:=Sx.St.stA k6 (i:=1) (v:=snapC s) rfl (snS _) (by simp) (snapC_len s) (snapC_one s)
   let S:World→Prop:=fun w'=>St w [] w' [.arr g 47 (catC C sa sn sc pa pn pc),.arr g5 89 (snapC s)]
   have k7:S w7:=k7
   have toK:∀ {w'},S w'→K w':=fun hw=>Sx.St.sub hw (by simp)
   have ldQ:∀(o:Nat) (z:Int),(snapC s)[o]?=some (.int .i64 z)→∀ {w'},S w'→(Instr.loadAt 3 (.pointer (some ⟨g5,o,none⟩))).run Tryz.prog w'=.ok (.int .i64 z) w':=fun o z hz {w'} hw=>by
     have:=Sx.St.ldL hw (i:=1) (o:=o) rfl (p64A _) rfl hz
     exact this
   have ldN:∀ {w'},S w'→(Instr.loadAt 9 (.pointer (some ⟨g5,0,none⟩))).run Tryz.prog w'=.ok (strV s.name) w':=fun hw=>Sx.St.ldL hw (i:=1) (o:=0) rfl (snStr _) rfl rfl
   obtain ⟨ok,hok⟩:∃ok,((C.snaps.take i).all goodSnap&&(List.range i).all (ascAt C.snaps))=ok:=⟨_,rfl⟩
   have hnext:((C.snaps.take (i+1)).all goodSnap&&(List.range (i+1)).all (ascAt C.snaps))=(ok&&goodSnap s&&ascAt C.snaps i):=by
     rw [←hok,List.take_add_one,hs,List.range_succ]
     simp only [Option.toList_some,List.all_append,List.all_cons,List.all_nil,Bool.and_true]
     cases (C.snaps.take i).all goodSnap<;>cases goodSnap s<;>cases (List.range i).all (ascAt C.snaps)<;>simp
   rw [hok]
   refine ⟨_,_,_,ldS k5,b1,o1,ha1,by omega,by omega,_,ld1' w5 (h.snaps.keep0 k5.chg),g5,w6,r6,w7,r7,fun b w'=>b=(ok&&goodSnap s)∧S w',⟨fun ht=>⟨_,ldN k7,(rsnName_spec s.name (h.names s (List.mem_of_getElem? hs)) w7).mono ?_⟩,fun hf=>⟨by rw [hf];rfl,k7⟩⟩,?_⟩
   · rintro e w8 ⟨rfl,rfl⟩
     rw [ht]
     refine ⟨_,rfl,fun hn=>⟨_,ldQ 1 _ rfl k7,fun h1=>⟨_,ldQ 1 _ rfl k7,fun h2=>⟨_,ldQ 2 _ rfl k7,fun h3=>⟨_,ldQ 3 _ rfl k7,fun h4=>⟨_,ldQ 3 _ rfl k7,?_,k7⟩,fun h4=>⟨?_,k7⟩⟩,fun h3=>⟨?_,k7⟩⟩,fun h2=>⟨?_,k7⟩⟩,fun h1=>⟨?_,k7⟩⟩,fun hn=>⟨?_,k7⟩⟩
     · rw [goodSnap,hn,h1,h2,h3,h4];rfl
     · rw [goodSnap,hn,h1,h2,h3,h4];rfl
     · rw [goodSnap,hn,h1,h2,h3];rfl
     · rw [goodSnap,hn,h1,h2];rfl
     · rw [goodSnap,hn,h1];rfl
     · rw [goodSnap,hn];rfl
   rintro b w9 ⟨rfl,k9⟩
   have k9d:S w9.drew:=Sx.St.drew k9
   refine ⟨fun b w'=>b=(ok&&goodSnap s&&ascAt C.snaps i)∧S w',⟨S,k9d,fun ht=>⟨fun h0=>⟨?_,k9d⟩,fun h0=>?_⟩,fun hf=>⟨by rw [hf];rfl,k9d⟩⟩,?_⟩
   · have hi0:i=0:=by simp at h0;omega
     subst hi0
     rw [ht];rfl
   · have hi0:i≠0:=by rintro rfl;simp at h0
     obtain ⟨t,htt⟩:∃t,C.snaps[i-1]?=some t:=⟨_,List.getElem?_eq_getElem (by omega)⟩
     have eW:IntKind.wrap .i64 ((i:Int)-1)=((i-1:Nat):Int):=by rw [wrap_i64 (by omega) (by omega)];omega
     obtain ⟨b2,o2,ha2,ld2⟩:=h.snaps.fld (P:=Tryz.prog) (by decide) snStr (j:=0) htt rfl
     rw [eW]
     refine ⟨_,_,_,fun w' hw=>ldS (toK hw),b2,o2,ha2,by omega,by omega,_,fun w' hw=>ld2 w' (h.snaps.keep0 (Sx.St.chg hw)),_,fun w' hw=>ldN hw,_,fun w' _=>lssC t.name s.name _ _ w',?_,k9d⟩
     have hat:ascAt C.snaps i=lexLt t.name s.name:=by
       have:(i==0)=false:=by simp;exact hi0
       rw [ascAt,this,htt,hs];rfl
     rw [ht,hat];rfl
   · rintro b w10 ⟨rfl,k10⟩
     exact ⟨⟨i+1,wrap_succ hi' (by omega),by omega,hnext.symm,toK k10⟩,mu_succ hi' (by omega)⟩
 · have hi':i=sn:=by simp at hge;omega
   have hGA:((C.snaps.take i).all goodSnap&&(List.range i).all (ascAt C.snaps))=(C.snaps.all goodSnap&&ascB C.snaps):=by rw [hi',←hsn,List.take_length];rfl
   rw [hGA]
   obtain ⟨G,hG⟩:∃G,(C.snaps.all goodSnap&&ascB C.snaps)=G:=⟨_,rfl⟩
   rw [hG] at hck ⊢
   refine ⟨fun b x w'=>∃j:Nat,x=(j:Int)∧j≤pn∧b=(G&&(List.range j).all (pkAt C.packs C.next))∧K w',fun _ x _=>pn-x.toNat,⟨0,rfl,by omega,by simp,k5⟩,?_⟩
   rintro b x w11 ⟨j,rfl,hj,rfl,k11⟩
   refine ⟨_,_,_,ldK k11,fun hlt=>?_,fun hge=>?_⟩
   · have hj':j<pn:=by simp at hlt;omega
     obtain ⟨p,hp⟩:∃p,C.packs[j]?=some p:=⟨_,List.getElem?_eq_getElem (by omega)⟩
     obtain ⟨b1,o1,ha1,ldp⟩:=h.packs.ld (P:=Tryz.prog) (by decide) pqA pqS hp
     obtain ⟨g7,w12,r12,k12⟩:=Sx.St.zeroA k11 pqZ
     obtain ⟨w13,r13,k13⟩:=Sx.St.stA k12 (i:=1) (v:=pkC p) rfl (pqS _) (by simp) rfl (fun v hv=>by simp [pkC] at hv;rcases hv with rfl | rfl | rfl<;>rfl)
     let S:World→Prop:=fun w'=>St w [] w' [.arr g 47 (catC C sa sn sc pa pn pc),.arr g7 91 (pkC p)]
     have k13:S w13:=k13
     have toK:∀ {w'},S w'→K w':=fun hw=>Sx.St.sub hw (by simp)
     have ldQ:∀(o:Nat) (z:Int),(pkC p)[o]?=some (.int .i64 z)→∀ {w'},S w'→(Instr.loadAt 3 (.pointer (some ⟨g7,o,none⟩))).run Tryz.prog w'=.ok (.int .i64 z) w':=fun o z hz {w'} hw=>by
       have:=Sx.St.ldL hw (i:=1) (o:=o) rfl (p64A _) rfl hz
       exact this
     have hnum:numAt C.packs j=p.num:=by rw [numAt,hp];rfl
     have hpk:pkAt C.packs C.next j=(pkOne C.next p&&(j==0||decide (numAt C.packs (j-1)<p.num))):=by rw [pkAt,hp,hnum]
     obtain ⟨ok,hok⟩:∃ok,(G&&(List.range j).all (pkAt C.packs C.next))=ok:=⟨_,rfl⟩
     have hnext:(G&&(List.range (j+1)).all (pkAt C.packs C.next))=(ok&&pkOne C.next p&&(j==0||decide (numAt C.packs (j-1)<p.num))):=by
       rw [←hok,List.range_succ]
       simp only [List.all_append,List.all_cons,List.all_nil,Bool.and_true]
       rw [hpk]
       simp only [Bool.and_assoc]
     rw [hok]
     refine ⟨_,_,_,ldK k11,b1,o1,ha1,by omega,by omega,_,ldp w11 (h.packs.keep0 k11.chg),g7,w12,r12,w13,r13,fun b w'=>b=(ok&&pkOne C.next p)∧S w',⟨fun ht=>⟨_,ldQ 0 _ rfl k13,fun h1=>⟨_,ldQ 0 _ rfl k13,_,ldI 1 _ rfl (toK k13),fun h2=>⟨_,ldQ 1 _ rfl k13,fun h3=>⟨_,ldQ 2 _ rfl k13,?_,k13⟩,fun h3=>⟨?_,k13⟩⟩,fun h2=>⟨?_,k13⟩⟩,fun h1=>⟨?_,k13⟩⟩,fun hf=>⟨by rw [hf];rfl,k13⟩⟩,?_⟩
     · rw [ht,pkOne,h1,h2,h3];rfl
     · rw [ht,pkOne,h1,h2,h3];rfl
     · rw [ht,pkOne,h1,h2];rfl
     · rw [ht,pkOne,h1];rfl
     rintro b w14 ⟨rfl,k14⟩
     have k14d:S w14.drew:=Sx.St.drew k14
     refine ⟨fun b w'=>b=(ok&&pkOne C.next p&&(j==0||decide (numAt C.packs (j-1)<p.num)))∧S w',⟨S,k14d,fun ht=>⟨fun h0=>⟨?_,k14d⟩,fun h0=>?_⟩,fun hf=>⟨by rw [hf];rfl,k14d⟩⟩,?_⟩
     · have hj0:j=0:=by simp at h0;omega
       subst hj0
       rw [ht];rfl
     · have hj0:j≠0:=by rintro rfl;simp at h0
       obtain ⟨t,htt⟩:∃t,C.packs[j-1]?=some t:=⟨_,List.getElem?_eq_getElem (by omega)⟩
       have eW:IntKind.wrap .i64 ((j:Int)-1)=((j-1:Nat):Int):=by rw [wrap_i64 (by omega) (by omega)];omega
       obtain ⟨b2,o2,ha2,ld2⟩:=h.packs.fld (P:=Tryz.prog) (by decide) p64A (j:=0) htt rfl
       rw [eW]
       refine ⟨_,_,_,fun w' hw=>ldK (toK hw),b2,o2,ha2,by omega,by omega,_,fun w' hw=>ld2 w' (h.packs.keep0 (Sx.St.chg hw)),_,fun w' hw=>ldQ 0 _ rfl hw,?_,k14d⟩
       have hb0:(j==0)=false:=by simp;exact hj0
       have hn1:numAt C.packs (j-1)=t.num:=by rw [numAt,htt];rfl
       rw [ht,hb0,hn1];rfl
     · rintro b w15 ⟨rfl,k15⟩
       exact ⟨⟨j+1,wrap_succ hj' (by omega),by omega,hnext.symm,toK k15⟩,mu_succ hj' (by omega)⟩
   · have hj':j=pn:=by simp at hge;omega
     have hE:checkB C=(G&&(List.range j).all (pkAt C.packs C.next)):=by rw [hck,hj',←hpn]
     rw [hE]
     refine ⟨fun hb=>⟨?_,k11.chg⟩,fun hb=>⟨?_,k11.chg⟩⟩
     · simp only [Bool.not_eq_true'] at hb
       rw [hb];rfl
     · simp only [Bool.not_eq_false'] at hb
       rw [hb];rfl

end Go.Proofs.YtpmhjnhgpplmnaaGreatDoor
end

section
namespace Go.Proofs.YtpmhjnhgpplmnaaGreatDoor
open Go Sx
set_option maxRecDepth 8000

def varZ (z:Int):List UInt8:=if z<0 then [] else varL z.toNat
def varsZ (l:List Int):List UInt8:=(l.map varZ).flatten
def numZ (z:Int):List UInt8:=numL (z%18446744073709551616).toNat
theorem varZ_len {z:Int} (h:z≤9223372036854775807):(varZ z).length≤9:=by
 unfold varZ
 split
 · simp
 · exact varL_len 9 z.toNat (by omega) (by decide)
theorem varsZ_snoc (l:List Int) (z:Int):varsZ (l++ [z])=varsZ l++varZ z:=by simp [varsZ]
theorem varsZ_len:∀ {l:List Int},(∀z∈l,z≤9223372036854775807)→(varsZ l).length≤9*l.length
 | [],_=>by simp [varsZ]
 | z::l,h=>by
   have h1:=varZ_len (h z (by simp))
   have h2:=varsZ_len (l:=l) fun y hy=>h y (by simp [hy])
   simp only [varsZ,List.map_cons,List.flatten_cons,List.length_append,List.length_cons] at h2 ⊢
   omega
theorem rvarZ (z:Int) (hz:z≤9223372036854775807) (w:World):Calls Tryz.prog 240 #[.int .i64 z] w fun e w'=>∃a n c,e=.returned (.slice a n c)∧Chg [] w w'∧RdB w' a n c (varZ z):=by
 by_cases h:z<0
 · refine (rvar_neg z w h).mono ?_
   rintro e w' ⟨rfl,rfl⟩
   exact ⟨_,_,_,rfl,Chg.refl _ _,by rw [varZ,if_pos h];exact rdNil _⟩
 · obtain ⟨m,rfl⟩:∃m:Nat,z=(m:Int):=⟨z.toNat,by omega⟩
   refine (rvar_spec m w (by omega)).mono ?_
   rintro e w' ⟨a,n,c,rfl,hf⟩
   exact ⟨_,_,_,rfl,hf.1,by rw [varZ,if_neg h,Int.toNat_natCast];exact hf.rdB⟩

section
variable {w0 w:World} {X:List Nat} {M:List Res}
theorem rvars16_spec (zs:List Int) (hz:∀z∈zs,z≤9223372036854775807) (la:Option Addr) (ln lc:Nat) (a:Option Addr) (n c:Nat) (l:List UInt8) (h:St w0 X w (M++ [.row 5 1 (.slice a n c) n (bv l)])) (hl:∀w',St w0 X w' M→Rd w' la ln lc 1 (iv zs)) (hb:n+9*zs.length≤140737488355000):
   Calls Tryz.prog 204 #[.slice a n c,.slice la ln lc] w fun e w'=>∃a' c',e=.returned (.slice a' (n+(varsZ zs).length) c')∧St w0 X w' (M++ [.row 5 1 (.slice a' (n+(varsZ zs).length) c') (n+(varsZ zs).length) (bv (l++varsZ zs))]):=by
 have hln:zs.length=ln:=by have:=(hl w (h.sub (List.sublist_append_left _ _))).len;simpa using this
 apply amphoraref16_vars_vc
 refine ⟨fun xa xn xc x w'=>∃i:Nat,x=(i:Int)∧i≤ln∧xn=n+(varsZ (zs.take i)).length∧St w0 X w' (M++ [.row 5 1 (.slice xa xn xc) xn (bv (l++varsZ (zs.take i)))]),fun _ _ _ x _=>ln-x.toNat,⟨0,rfl,by omega,by simp [varsZ],by simpa [varsZ] using h⟩,?_⟩
 rintro xa xn xc x w1 ⟨i,rfl,hi,rfl,hS⟩
 refine ⟨fun hlt=>?_,fun hge=>?_⟩
 · have hi':i<ln:=by simp at hlt;omega
   obtain ⟨z,hzi⟩:∃z,zs[i]?=some z:=⟨_,List.getElem?_eq_getElem (by omega)⟩
   have hcell:(iv zs)[i]?=some (.int .i64 z):=by rw [iv_get,hzi];rfl
   obtain ⟨b,o,ha,hc⟩:=(hl w1 (hS.sub (List.sublist_append_left _ _))).cells.at_ hcell
   have hz1:=hz z (List.mem_of_getElem? hzi)
   refine ⟨b,o,ha,by omega,by omega,_,by rw [Int.toNat_natCast,Nat.mul_one];exact ld1 (p64A _) hc,(rvarZ z hz1 w1).mono ?_⟩
   rintro e w2 ⟨ba,bn,bc,rfl,c2,hr⟩
   have h2:=hS.same c2
   have hbl:=hr.lenB
   have hv:=varZ_len hz1
   have htl:=varsZ_len (l:=zs.take i) fun y hy=>hz y (List.mem_of_mem_take hy)
   rw [List.length_take,Nat.min_eq_left (by omega)] at htl
   obtain ⟨va,vc,w3,r3,h3⟩:=h2.appendB (i:=M.length) List.getElem?_concat_length hr (by omega)
   rw [List.set_append_right _ _ (Nat.le_refl _),Nat.sub_self] at h3
   have htk:varsZ (zs.take (i+1))=varsZ (zs.take i)++varZ z:=by rw [List.take_add_one,hzi];exact varsZ_snoc _ _
   refine ⟨_,_,_,rfl,va,_,vc,w3,r3,⟨i+1,wrap_succ hi' (by omega),by omega,?_,?_⟩,mu_succ hi' (by omega)⟩
   · rw [htk,List.length_append,←hbl];omega
   · rw [htk,←List.append_assoc]
     exact h3
 · have hi':i=ln:=by simp at hge;omega
   rw [hi',←hln,List.take_length] at hS ⊢
   exact ⟨_,_,rfl,hS⟩
end

end Go.Proofs.YtpmhjnhgpplmnaaGreatDoor
end

section
namespace Go.Proofs.YtpmhjnhgpplmnaaGreatDoor
open Go Sx
set_option maxRecDepth 8000

theorem append_by (args:Array Value) (w:World):(Builtin.append_ #[185,26] 185 args).run Tryz.prog w=(Builtin.append_ #[26,26] 26 args).run Tryz.prog w:=by
 have u1:=Tryz.underlying185
 have u2:=Tryz.underlying26
 unfold Builtin.append_
 have e1:(#[185,26]:Array TypeId)[0]?=some 185:=rfl
 have e2:(#[185,26]:Array TypeId)[1]?=some 26:=rfl
 have e3:(#[26,26]:Array TypeId)[0]?=some 26:=rfl
 have e4:(#[26,26]:Array TypeId)[1]?=some 26:=rfl
 rw [e1,e2,e3,e4]
 cases h0:args[0]? with
 | none=>rfl
 | some s=>
   cases h1:args[1]? with
   | none=>rfl
   | some x=>simp only [Sem.run_bind,run_underlying u1,run_underlying u2,Result.andThen_ok]

theorem pvarZ (z:Int) (hz:z≤9223372036854775807) (w:World):Calls Tryz.prog 197 #[.int .i64 z] w fun e w'=>∃a n c,e=.returned (.slice a n c)∧Chg [] w w'∧RdB w' a n c (varZ z):=by
 by_cases h:z<0
 · refine (var_neg z w h).mono ?_
   rintro e w' ⟨rfl,rfl⟩
   exact ⟨_,_,_,rfl,Chg.refl _ _,by rw [varZ,if_pos h];exact rdNil _⟩
 · obtain ⟨m,rfl⟩:∃m:Nat,z=(m:Int):=⟨z.toNat,by omega⟩
   refine (var_spec m w (by omega)).mono ?_
   rintro e w' ⟨a,n,c,rfl,hf⟩
   exact ⟨_,_,_,rfl,hf.1,by rw [varZ,if_neg h,Int.toNat_natCast];exact hf.rdB⟩
theorem pnumZ (z:Int) (_:z≤9223372036854775807) (w:World):Calls Tryz.prog 196 #[.int .i64 z] w fun e w'=>∃a n c,e=.returned (.slice a n c)∧Chg [] w w'∧RdB w' a n c (numZ z):=by
 refine (num_bytes z w).mono ?_
 rintro e w' ⟨a,n,c,rfl,hf⟩
 exact ⟨_,_,_,rfl,hf.1,hf.rdB⟩
theorem numZ_len (z:Int):(numZ z).length=8:=by simp [numZ,numL]
def numsZ (l:List Int):List UInt8:=(l.map numZ).flatten
theorem numsZ_snoc (l:List Int) (z:Int):numsZ (l++ [z])=numsZ l++numZ z:=by simp [numsZ]
theorem numsZ_len:∀ {l:List Int},(∀z∈l,z≤9223372036854775807)→(numsZ l).length≤9*l.length
 | [],_=>by simp [numsZ]
 | z::l,h=>by
   have h1:=numZ_len z
   have h2:=numsZ_len (l:=l) fun y hy=>h y (by simp [hy])
   simp only [numsZ,List.map_cons,List.flatten_cons,List.length_append,List.length_cons] at h2 ⊢
   omega

set_option maxHeartbeats 1000000 in
theorem pvars_spec {w0 w:World} {X:List Nat} {M:List Res} (zs:List Int) (hz:∀z∈zs,z≤9223372036854775807) (la:Option Addr) (ln lc:Nat) (g:Nat) (a:Option Addr) (n c:Nat) (l:List UInt8) (h:St w0 X w (M++ [.arr g 185 [.slice a n c],.row 5 1 (.slice a n c) n (bv l)])) (hl:∀w',St w0 X w' M→Rd w' la ln lc 1 (iv zs)) (hb:n+9*zs.length≤140737488355000):
   Calls Tryz.prog 99 #[.pointer (some ⟨g,0,none⟩),.slice la ln lc] w fun e w'=>e=.returned (.tuple #[])∧∃a' c',St w0 X w' (M++ [.arr g 185 [.slice a' (n+(varsZ zs).length) c'],.row 5 1 (.slice a' (n+(varsZ zs).length) c') (n+(varsZ zs).length) (bv (l++varsZ zs))]):=by
 have hln:zs.length=ln:=by have:=(hl w (h.sub (List.sublist_append_left _ _))).len;simpa using this
 apply catalog_bytes_vars_vc
 refine ⟨fun x w'=>∃(i:Nat) (xa:Option Addr) (xc:Nat),x=(i:Int)∧i≤ln∧St w0 X w' (M++ [.arr g 185 [.slice xa (n+(varsZ (zs.take i)).length) xc],.row 5 1 (.slice xa (n+(varsZ (zs.take i)).length) xc) (n+(varsZ (zs.take i)).length) (bv (l++varsZ (zs.take i)))]),fun x _=>ln-x.toNat,⟨0,a,c,rfl,by omega,by simpa [varsZ] using h⟩,?_⟩
 rintro x w1 ⟨i,xa,xc,rfl,hi,hS⟩
 refine ⟨fun hlt=>?_,fun hge=>?_⟩
 · have hi':i<ln:=by simp at hlt;omega
   obtain ⟨z,hzi⟩:∃z,zs[i]?=some z:=⟨_,List.getElem?_eq_getElem (by omega)⟩
   have hcell:(iv zs)[i]?=some (.int .i64 z):=by rw [iv_get,hzi];rfl
   obtain ⟨b,o,ha,hc⟩:=(hl w1 (hS.sub (List.sublist_append_left _ _))).cells.at_ hcell
   have hz1:=hz z (List.mem_of_getElem? hzi)
   obtain ⟨N,hN⟩:∃N,n+(varsZ (zs.take i)).length=N:=⟨_,rfl⟩
   have htl:=varsZ_len (l:=zs.take i) fun y hy=>hz y (List.mem_of_mem_take hy)
   rw [List.length_take,Nat.min_eq_left (by omega)] at htl
   rw [hN] at hS
   let S:World→Prop:=fun w'=>St w0 X w' (M++ [.arr g 185 [.slice xa N xc]])
   have toS:∀ {w' r},St w0 X w' (M++ [.arr g 185 [.slice xa N xc],r])→S w':=fun hw=>Sx.St.sub hw (List.Sublist.append_left (by simp) _)
   have hSd:=hS.drew
   have g0:∀(x y:Res),(M++ [x,y])[M.length]?=some x:=fun x y=>by rw [List.getElem?_append_right (Nat.le_refl _),Nat.sub_self];rfl
   have g1:∀(x y:Res),(M++ [x,y])[M.length+1]?=some y:=fun x y=>by rw [List.getElem?_append_right (by omega),Nat.add_sub_cancel_left];rfl
   refine ⟨b,o,ha,by omega,by omega,_,by rw [Int.toNat_natCast,Nat.mul_one];exact ld1 (p64A _) hc,S,toS hSd,_,_,_,fun w' hw=>Sx.St.ldL hw (i:=M.length) (o:=0) List.getElem?_concat_length (Tryz.isAgg185 _) rfl rfl,(pvarZ z hz1 w1.drew).mono ?_⟩
   rintro e w2 ⟨ba,bn,bc,rfl,c2,hr⟩
   have h2:=hSd.same c2
   have hbl:=hr.lenB
   have hv:(varZ z).length≤9:=varZ_len hz1
   obtain ⟨va,vc,w3,r3,h3⟩:=h2.appendB (i:=M.length+1) (g1 _ _) hr (by omega)
   rw [List.set_append_right _ _ (by omega),Nat.add_sub_cancel_left] at h3
   have h3:St w0 X w3 (M++ [.arr g 185 [.slice xa N xc],.row 5 1 (.slice va (N+bn) vc) (N+bn) (bv (l++varsZ (zs.take i)++varZ z))]):=h3
   obtain ⟨w4,r4,h4⟩:=h3.stL (i:=M.length) (o:=0) (off:=0) (T:=185) (v:=.slice va (N+bn) vc) (g0 _ _) (Tryz.sizeOf185 _) rfl (by simp) rfl
   rw [List.set_append_right _ _ (Nat.le_refl _),Nat.sub_self] at h4
   have htk:varsZ (zs.take (i+1))=varsZ (zs.take i)++varZ z:=by rw [List.take_add_one,hzi];exact varsZ_snoc _ _
   refine ⟨_,_,_,rfl,S,fun _ h=>h,toS h2,va,_,vc,w3,by rw [append_by];exact r3,S,fun _ h=>h,toS h3,w4,r4,⟨i+1,va,vc,wrap_succ hi' (by omega),by omega,?_⟩,mu_succ hi' (by omega)⟩
   have e1:n+(varsZ (zs.take (i+1))).length=N+bn:=by rw [htk,List.length_append,←hbl];omega
   rw [e1,htk,←List.append_assoc]
   exact h4
 · have hi':i=ln:=by simp at hge;omega
   rw [hi',←hln,List.take_length] at hS
   exact ⟨rfl,xa,xc,hS⟩

set_option maxHeartbeats 1000000 in
theorem pnums_spec {w0 w:World} {X:List Nat} {M:List Res} (zs:List Int) (hz:∀z∈zs,z≤9223372036854775807) (la:Option Addr) (ln lc:Nat) (g:Nat) (a:Option Addr) (n c:Nat) (l:List UInt8) (h:St w0 X w (M++ [.arr g 185 [.slice a n c],.row 5 1 (.slice a n c) n (bv l)])) (hl:∀w',St w0 X w' M→Rd w' la ln lc 1 (iv zs)) (hb:n+9*zs.length≤140737488355000):
   Calls Tryz.prog 98 #[.pointer (some ⟨g,0,none⟩),.slice la ln lc] w fun e w'=>e=.returned (.tuple #[])∧∃a' c',St w0 X w' (M++ [.arr g 185 [.slice a' (n+(numsZ zs).length) c'],.row 5 1 (.slice a' (n+(numsZ zs).length) c') (n+(numsZ zs).length) (bv (l++numsZ zs))]):=by
 have hln:zs.length=ln:=by have:=(hl w (h.sub (List.sublist_append_left _ _))).len;simpa using this
 apply catalog_bytes_nums_vc
 refine ⟨fun x w'=>∃(i:Nat) (xa:Option Addr) (xc:Nat),x=(i:Int)∧i≤ln∧St w0 X w' (M++ [.arr g 185 [.slice xa (n+(numsZ (zs.take i)).length) xc],.row 5 1 (.slice xa (n+(numsZ (zs.take i)).length) xc) (n+(numsZ (zs.take i)).length) (bv (l++numsZ (zs.take i)))]),fun x _=>ln-x.toNat,⟨0,a,c,rfl,by omega,by simpa [numsZ] using h⟩,?_⟩
 rintro x w1 ⟨i,xa,xc,rfl,hi,hS⟩
 refine ⟨fun hlt=>?_,fun hge=>?_⟩
 · have hi':i<ln:=by simp at hlt;omega
   obtain ⟨z,hzi⟩:∃z,zs[i]?=some z:=⟨_,List.getElem?_eq_getElem (by omega)⟩
   have hcell:(iv zs)[i]?=some (.int .i64 z):=by rw [iv_get,hzi];rfl
   obtain ⟨b,o,ha,hc⟩:=(hl w1 (hS.sub (List.sublist_append_left _ _))).cells.at_ hcell
   have hz1:=hz z (List.mem_of_getElem? hzi)
   obtain ⟨N,hN⟩:∃N,n+(numsZ (zs.take i)).length=N:=⟨_,rfl⟩
   have htl:=numsZ_len (l:=zs.take i) fun y hy=>hz y (List.mem_of_mem_take hy)
   rw [List.length_take,Nat.min_eq_left (by omega)] at htl
   rw [hN] at hS
   let S:World→Prop:=fun w'=>St w0 X w' (M++ [.arr g 185 [.slice xa N xc]])
   have toS:∀ {w' r},St w0 X w' (M++ [.arr g 185 [.slice xa N xc],r])→S w':=fun hw=>Sx.St.sub hw (List.Sublist.append_left (by simp) _)
   have hSd:=hS.drew
   have g0:∀(x y:Res),(M++ [x,y])[M.length]?=some x:=fun x y=>by rw [List.getElem?_append_right (Nat.le_refl _),Nat.sub_self];rfl
   have g1:∀(x y:Res),(M++ [x,y])[M.length+1]?=some y:=fun x y=>by rw [List.getElem?_append_right (by omega),Nat.add_sub_cancel_left];rfl
   refine ⟨b,o,ha,by omega,by omega,_,by rw [Int.toNat_natCast,Nat.mul_one];exact ld1 (p64A _) hc,S,toS hSd,_,_,_,fun w' hw=>Sx.St.ldL hw (i:=M.length) (o:=0) List.getElem?_concat_length (Tryz.isAgg185 _) rfl rfl,(pnumZ z hz1 w1.drew).mono ?_⟩
   rintro e w2 ⟨ba,bn,bc,rfl,c2,hr⟩
   have h2:=hSd.same c2
   have hbl:=hr.lenB
   have hv:(numZ z).length≤9:=by rw [numZ_len];omega
   obtain ⟨va,vc,w3,r3,h3⟩:=h2.appendB (i:=M.length+1) (g1 _ _) hr (by omega)
   rw [List.set_append_right _ _ (by omega),Nat.add_sub_cancel_left] at h3
   have h3:St w0 X w3 (M++ [.arr g 185 [.slice xa N xc],.row 5 1 (.slice va (N+bn) vc) (N+bn) (bv (l++numsZ (zs.take i)++numZ z))]):=h3
   obtain ⟨w4,r4,h4⟩:=h3.stL (i:=M.length) (o:=0) (off:=0) (T:=185) (v:=.slice va (N+bn) vc) (g0 _ _) (Tryz.sizeOf185 _) rfl (by simp) rfl
   rw [List.set_append_right _ _ (Nat.le_refl _),Nat.sub_self] at h4
   have htk:numsZ (zs.take (i+1))=numsZ (zs.take i)++numZ z:=by rw [List.take_add_one,hzi];exact numsZ_snoc _ _
   refine ⟨_,_,_,rfl,S,fun _ h=>h,toS h2,va,_,vc,w3,by rw [append_by];exact r3,S,fun _ h=>h,toS h3,w4,r4,⟨i+1,va,vc,wrap_succ hi' (by omega),by omega,?_⟩,mu_succ hi' (by omega)⟩
   have e1:n+(numsZ (zs.take (i+1))).length=N+bn:=by rw [htk,List.length_append,←hbl];omega
   rw [e1,htk,←List.append_assoc]
   exact h4
 · have hi':i=ln:=by simp at hge;omega
   rw [hi',←hln,List.take_length] at hS
   exact ⟨rfl,xa,xc,hS⟩

end Go.Proofs.YtpmhjnhgpplmnaaGreatDoor
end

section
namespace Go.Proofs.YtpmhjnhgpplmnaaGreatDoor
open Go Sx
set_option maxRecDepth 8000

theorem rLeft_spec (g T:Nat) (st:Option (List UInt8)) (a:Option Addr) (n c:Nat) (w:World) (hg:RdrA g T a n c st w):
   Calls Tryz.prog 214 #[.pointer (some ⟨g,0,none⟩)] w fun e w'=>e=.returned (.int .i64 (n:Int))∧w'=w:=by
 apply wire_Reader_Left_vc
 exact ⟨_,_,_,(St.ofBlk hg).ld (i:=0) (o:=0) rfl (bsA _) rfl,rfl,rfl⟩

def brE (st:Option (List UInt8)):Option Int:=if st.isNone then some 9 else none

theorem rErr_spec (g T:Nat) (st:Option (List UInt8)) (a:Option Addr) (n c:Nat) (w:World) (hg:RdrA g T a n c st w):
   Calls Tryz.prog 115 #[.pointer (some ⟨g,0,none⟩)] w fun e w'=>e=.returned (errV (brE st))∧w'=w:=by
 have iB:∀w,(isAgg 4).run Tryz.prog w=.ok false w:=fun w=>Tryz.isAgg4 w
 apply wire_Reader_Err_vc
 exact ⟨_,(St.ofBlk hg).ld (i:=0) (o:=1) (v:=.bool st.isNone) rfl (iB _) rfl,fun h=>⟨by simp [brE,h,errV],rfl⟩,fun h=>⟨by simp [brE,h,errV],rfl⟩⟩

theorem rDone_spec (g T:Nat) (st:Option (List UInt8)) (a:Option Addr) (n c:Nat) (w:World) (hg:RdrA g T a n c st w):
   Calls Tryz.prog 117 #[.pointer (some ⟨g,0,none⟩)] w fun e w'=>e=.returned (errV (if 0<n then some 9 else brE st))∧w'=w:=by
 apply wire_Reader_Done_vc
 refine (rLeft_spec g T st a n c w hg).mono ?_
 rintro e w1 ⟨rfl,rfl⟩
 refine ⟨_,rfl,fun h=>?_,fun h=>(rErr_spec g T st a n c w1 hg).mono ?_⟩
 · have:0<n:=by simp at h;omega
   exact ⟨by simp [this,errV],rfl⟩
 · rintro e w2 ⟨rfl,rfl⟩
   have:¬0<n:=by simp at h;omega
   exact ⟨_,rfl,by rw [if_neg this],rfl⟩

def numF (st:Option (List UInt8)):Int:=(readNumF (((rawF st 8).map (·.1)).getD [])).getD 0

theorem rNum_spec (g T:Nat) (st:Option (List UInt8)) (a:Option Addr) (n c:Nat) (w:World) (hg:RdrA g T a n c st w) (hr:RdB w a n c (st.getD [])):
   Calls Tryz.prog 113 #[.pointer (some ⟨g,0,none⟩)] w fun e w'=>e=.returned (.int .i64 (numF st))∧Chg [g] w w'∧RdrP g T a n c st ((rawF st 8).map (·.2)) w':=by
 obtain ⟨m,hI⟩:=eI
 apply wire_Reader_Num_vc
 refine (raw_spec g T st 8 a n c w hg hr).mono ?_
 rintro e w1 ⟨a1,n1,c1,rfl,hc1,hv1,hr1⟩
 refine ⟨_,_,_,rfl,(readNum_spec _ _ _ _ w1 hr1).mono ?_⟩
 rintro e w2 ⟨rfl,rfl⟩
 unfold numF
 cases h:readNumF (((rawF st 8).map (·.1)).getD []) with
 | none=>exact ⟨_,_,rfl,_,neqS_nil hI (some 9) _ _,fun _=>⟨rfl,hc1,hv1⟩,fun h=>by simp at h⟩
 | some y=>exact ⟨_,_,rfl,_,neqS_nil hI none _ _,fun h=>by simp at h,fun _=>⟨rfl,hc1,hv1⟩⟩

theorem newReader_spec (a:Option Addr) (n c:Nat) (l:List UInt8) (w:World) (hr:RdB w a n c l) (hb:n≤140737488355000):
   Calls Tryz.prog 112 #[.slice a n c] w fun e w'=>∃g a' c',e=.returned (.pointer (some ⟨g,0,none⟩))∧St w [] w' [.row 5 1 (.slice a' n c') n (bv l),.blk g (.cells #[.slice a' n c',.bool false] 292)]:=by
 apply wire_NewReader_vc
 refine (clone_spec a n c l w hr hb).mono ?_
 rintro e w1 ⟨a1,c1,rfl,hf⟩
 obtain ⟨g,w2,r2,h2⟩:=(hf.add (St.start w)).box (P:=Tryz.prog) 292 (.agg #[.slice a1 n c1,.bool false])
 exact ⟨_,_,_,rfl,_,reader_build a1 n c1 w1,g,w2,r2,g,a1,c1,rfl,h2⟩


theorem raw_nat {l:List UInt8} {m:Nat} (h:m≤l.length):rawF (some l) (m:Int)=some (l.take m,l.drop m):=by simp [rawF];omega

end Go.Proofs.YtpmhjnhgpplmnaaGreatDoor
end

section
namespace Go.Proofs.YtpmhjnhgpplmnaaGreatDoor
open Go Sx
set_option maxRecDepth 8000

def HoldsR (w w':World) (g:Nat) (a0:Option Addr) (n0 c0:Nat) (l:List UInt8) (st:Option (List UInt8)) (N:List Res):Prop:=
 ∃a n c,SubB a0 n0 c0 l a n c (st.getD [])∧(st.getD []).length≤l.length∧St w [] w' (.row 5 1 (.slice a0 n0 c0) n0 (bv l):: .blk g (.cells #[.slice a n c,.bool st.isNone] 292)::N)

section
variable {w w1:World} {g:Nat} {a0:Option Addr} {n0 c0:Nat} {l:List UInt8} {st:Option (List UInt8)} {N:List Res}

theorem HoldsR.chg (h:HoldsR w w1 g a0 n0 c0 l st N):Chg [] w w1:=by obtain ⟨_,_,_,_,_,hS⟩:=h;exact hS.chg

theorem HoldsR.raw (h:HoldsR w w1 g a0 n0 c0 l st N) (x:Int) (hb:l.length≤140737488355000):
   Calls Tryz.prog 213 #[.pointer (some ⟨g,0,none⟩),.int .i64 x] w1 fun e w2=>∃a' n' c',e=.returned (.slice a' n' c')∧HoldsR w w2 g a0 n0 c0 l ((rawF st x).map (·.2)) (N++ [.row 5 1 (.slice a' n' c') n' (bv (((rawF st x).map (·.1)).getD []))]):=by
 obtain ⟨a,n,c,hs,hlen,hS⟩:=h
 have h0:RdB w1 a0 n0 c0 l:=hS.rd (i:=0) rfl
 refine (rRaw_spec g _ st x a n c w1 (hS.holds 1 _ rfl) (hs w1 h0) (by omega)).mono ?_
 rintro e w2 ⟨a',n',c',rfl,hf,a2,n2,c2,hg2,hs2⟩
 refine ⟨a',n',c',rfl,a2,n2,c2,fun v hv=>hs2 v (hs v hv),?_,hf.addBlk hS (i:=1) rfl hg2⟩
 cases st with
 | none=>simp [rawF]
 | some q=>
   simp only [Option.getD_some] at hlen
   simp only [rawF,Option.bind_some]
   split
   · simp;omega
   · simp

theorem HoldsR.var (h:HoldsR w w1 g a0 n0 c0 l st N):
   Calls Tryz.prog 114 #[.pointer (some ⟨g,0,none⟩)] w1 fun e w2=>e=.returned (.int .i64 ((((varF st).map (·.1)).getD 0:Nat):Int))∧HoldsR w w2 g a0 n0 c0 l ((varF st).map (·.2)) N:=by
 obtain ⟨a,n,c,hs,hlen,hS⟩:=h
 have h0:RdB w1 a0 n0 c0 l:=hS.rd (i:=0) rfl
 refine (rVar_spec g _ st a n c w1 (hS.holds 1 _ rfl) (hs w1 h0)).mono ?_
 rintro e w2 ⟨rfl,hc,a2,n2,c2,hg2,hs2⟩
 refine ⟨rfl,a2,n2,c2,fun v hv=>hs2 v (hs v hv),?_,hS.upd (i:=1) (r':=.blk g (.cells #[.slice a2 n2 c2,.bool ((varF st).map fun p:Nat×List UInt8=>p.2).isNone] 292)) rfl hc hg2 (by simp [Res.fp])⟩
 cases st with
 | none=>simp [varF]
 | some q=>
   simp only [Option.getD_some] at hlen
   simp only [varF,Option.bind_some]
   cases readVarF q with
   | none=>simp
   | some p=>simp;omega

theorem HoldsR.err (h:HoldsR w w1 g a0 n0 c0 l st N):
   Calls Tryz.prog 115 #[.pointer (some ⟨g,0,none⟩)] w1 fun e w2=>e=.returned (errV (brE st))∧w2=w1:=by
 obtain ⟨a,n,c,hs,hlen,hS⟩:=h
 exact rErr_spec g _ st a n c w1 (hS.holds 1 _ rfl)

theorem HoldsR.done (h:HoldsR w w1 g a0 n0 c0 l st N):
   Calls Tryz.prog 117 #[.pointer (some ⟨g,0,none⟩)] w1 fun e w2=>e=.returned (errV (if 0<(st.getD []).length then some 9 else brE st))∧w2=w1:=by
 obtain ⟨a,n,c,hs,hlen,hS⟩:=h
 have h0:RdB w1 a0 n0 c0 l:=hS.rd (i:=0) rfl
 rw [(hs w1 h0).lenB]
 exact rDone_spec g _ st a n c w1 (hS.holds 1 _ rfl)
end

end Go.Proofs.YtpmhjnhgpplmnaaGreatDoor
end

section
namespace Go.Proofs.YtpmhjnhgpplmnaaGreatDoor
open Go Sx
set_option maxRecDepth 8000

def polyZ (s:SetD):Int:=IntKind.wrap .i64 (s.poly:Int)
def snapB (s:SnapD):List UInt8:=varL s.name.length++s.name++(numZ s.time++(varsZ [s.size,s.chunks]++s.root))
def pkB (p:PkD):List UInt8:=varsZ [p.num,p.size,p.count]
def plainB (C:CatD):List UInt8:=numsZ [C.gen,C.next,polyZ C.set]++(varsZ [C.set.win,C.set.min,C.set.max,C.set.bits,(C.snaps.length:Int)]++(C.snaps.flatMap snapB++(varsZ [(C.packs.length:Int)]++C.packs.flatMap pkB)))
def catK:List UInt8:=[99,97,116,97,108,111,103]
def encC (K:List UInt8) (C:CatD):List UInt8:=sealF K 4 catK (plainB C)

def I63 (z:Int):Prop:= -9223372036854775808≤z∧z≤9223372036854775807
def N63 (z:Int):Prop:=0≤z∧z≤9223372036854775807
def numT (st:Option (List UInt8)):Option (List UInt8):=(rawF st 8).map (·.2)
def varT (st:Option (List UInt8)):Option (List UInt8):=(varF st).map (·.2)
def varI (st:Option (List UInt8)):Int:=((((varF st).map (·.1)).getD 0:Nat):Int)
theorem rawN_app (z:Int) (r:List UInt8):rawF (some (numZ z++r)) 8=some (numZ z,r):=by
 have hl:=numZ_len z
 have:=raw_nat (l:=numZ z++r) (m:=8) (by simp;omega)
 rw [show ((8:Nat):Int)=8 from rfl] at this
 rw [this,List.take_left' hl,List.drop_left' hl]
theorem num_app {z:Int} (h:I63 z) (r:List UInt8):numF (some (numZ z++r))=z∧numT (some (numZ z++r))=some r:=by
 unfold numF numT
 rw [rawN_app]
 refine ⟨?_,rfl⟩
 show (readNumF (numZ z)).getD 0=z
 rw [numZ,readNum_numL z h.1 h.2]
 rfl
theorem var_appZ {z:Int} (h:N63 z) (r:List UInt8):varI (some (varZ z++r))=z∧varT (some (varZ z++r))=some r:=by
 have hz:varZ z=varL z.toNat:=by rw [varZ,if_neg (by have:=h.1;omega)]
 have hv:varF (some (varL z.toNat++r))=some (z.toNat,r):=by
   simp only [varF,Option.bind_some,readVar_varL (m:=z.toNat) (by have:=h.2;omega),Option.map_some,List.drop_left]
 unfold varI varT
 rw [hz,hv]
 exact ⟨by have:=h.1;simp;omega,rfl⟩
theorem polyZ_rng (s:SetD):I63 (polyZ s):=by
 unfold polyZ I63
 rw [wrap_i64_of]
 split<;>omega
theorem polyZ_back {s:SetD} (h:s.poly<18446744073709551616):IntKind.wrap .u64 (polyZ s)=(s.poly:Int):=by
 unfold polyZ
 rw [wrap_i64_of,wrap_u64]
 split<;>omega

theorem goodSnap_iff {s:SnapD} :goodSnap s=true↔nameB s.name=true∧(-1099511627776≤s.time∧s.time≤1099511627776)∧0≤s.size∧0≤s.chunks∧s.chunks≤65536:=by
 simp only [goodSnap,Bool.and_eq_true,decide_eq_true_eq]
 constructor
 · rintro ⟨a,b,c,d,e,f⟩;exact ⟨a,⟨b,c⟩,d,e,f⟩
 · rintro ⟨a,⟨b,c⟩,d,e,f⟩;exact ⟨a,b,c,d,e,f⟩
theorem name_len32 {s:List UInt8} (h:nameB s=true):1≤s.length∧s.length≤32:=by
 simp only [nameB,Bool.and_eq_true,decide_eq_true_eq] at h
 exact h.2
structure CatOk (C:CatD):Prop where
 gen:I63 C.gen
 next:I63 C.next
 poly:C.set.poly<18446744073709551616
 set:N63 C.set.win∧N63 C.set.min∧N63 C.set.max∧N63 C.set.bits
 sn:C.snaps.length≤64
 pn:C.packs.length≤1024
 snaps:∀s∈C.snaps,(1≤s.name.length∧s.name.length≤32)∧I63 s.time∧N63 s.size∧N63 s.chunks
 packs:∀p∈C.packs,N63 p.num∧N63 p.size∧N63 p.count
theorem varZ_le {z:Int} (h:N63 z):(varZ z).length≤9:=varZ_len h.2
theorem snapB_len {s:SnapD} (h:(1≤s.name.length∧s.name.length≤32)∧I63 s.time∧N63 s.size∧N63 s.chunks):(snapB s).length≤100:=by
 have h1:=varZ_le h.2.2.1
 have h2:=varZ_le h.2.2.2
 have h3:(varL s.name.length).length=1:=by rw [varL_small (by omega)];rfl
 simp only [snapB,varsZ,List.map_cons,List.map_nil,List.flatten_cons,List.flatten_nil,List.append_nil,List.length_append,numZ_len,s.rl,h3]
 omega
theorem pkB_len {p:PkD} (h:N63 p.num∧N63 p.size∧N63 p.count):(pkB p).length≤27:=by
 have h1:=varZ_le h.1
 have h2:=varZ_le h.2.1
 have h3:=varZ_le h.2.2
 simp only [pkB,varsZ,List.map_cons,List.map_nil,List.flatten_cons,List.flatten_nil,List.append_nil,List.length_append]
 omega
theorem flat_le {α:Type} {f:α→List UInt8} {k:Nat} :∀ {l:List α},(∀x∈l,(f x).length≤k)→(l.flatMap f).length≤k*l.length
 | [],_=>by simp
 | x::l,h=>by
   have h1:=h x (by simp)
   have h2:=flat_le (l:=l) fun y hy=>h y (by simp [hy])
   rw [List.flatMap_cons,List.length_append,List.length_cons,Nat.mul_succ]
   omega
theorem plain_len {C:CatD} (h:CatOk C):(plainB C).length≤40000:=by
 have h1:=flat_le (f:=snapB) (k:=100) fun s hs=>snapB_len (h.snaps s hs)
 have h2:=flat_le (f:=pkB) (k:=27) fun p hp=>pkB_len (h.packs p hp)
 have a1:=varZ_le h.set.1
 have a2:=varZ_le h.set.2.1
 have a3:=varZ_le h.set.2.2.1
 have a4:=varZ_le h.set.2.2.2
 have b1:=h.sn
 have b2:=h.pn
 have a5:=varZ_le (z:=(C.snaps.length:Int)) ⟨by omega,by omega⟩
 have a6:=varZ_le (z:=(C.packs.length:Int)) ⟨by omega,by omega⟩
 simp only [plainB,numsZ,varsZ,List.map_cons,List.map_nil,List.flatten_cons,List.flatten_nil,List.append_nil,List.length_append,numZ_len]
 omega
theorem setB_ok {s:SetD} (h:goodSet s=true):N63 s.win∧N63 s.min∧N63 s.max∧N63 s.bits:=by
 simp only [goodSet,gd1,gd2,gd3,gd4,Bool.and_eq_true,decide_eq_true_eq] at h
 have h2:=h.2
 unfold N63
 omega

end Go.Proofs.YtpmhjnhgpplmnaaGreatDoor
end

section
namespace Go.Proofs.YtpmhjnhgpplmnaaGreatDoor
open Go Sx
set_option maxRecDepth 8000

theorem SnapD.ext {r s:SnapD} (h1:r.name=s.name) (h2:r.time=s.time) (h3:r.size=s.size) (h4:r.chunks=s.chunks) (h5:r.root=s.root):r=s:=by
 cases r;cases s;simp_all
theorem snap_fields:((Tryz.prog.fieldsOf 89).toList.map fun f=>(f.type,f.offset))=[(9,0),(3,1),(3,2),(3,3),(87,4)]:=by kernel_rfl
theorem snap_names:((Tryz.prog.fieldsOf 89).toList.all fun f=>f.name != "_")=true:=by kernel_rfl
theorem strEq (l m:List UInt8):((⟨l.toArray⟩:ByteArray).toList==(⟨m.toArray⟩:ByteArray).toList)=decide (l=m):=by
 rw [ByteArray.toList_eq,ByteArray.toList_eq]
 show (l==m)=decide (l=m)
 by_cases h:l=m<;>simp [h]
def snapEqB (r s:SnapD):Bool:=decide (r.name=s.name)&&((r.time==s.time)&&((r.size==s.size)&&((r.chunks==s.chunks)&&(decide (r.root=s.root)&&true))))
theorem snapEqB_iff (r s:SnapD):snapEqB r s=true↔r=s:=by
 unfold snapEqB
 simp only [Bool.and_true,Bool.and_eq_true,decide_eq_true_eq,beq_iff_eq]
 constructor
 · rintro ⟨h1,h2,h3,h4,h5⟩;exact SnapD.ext h1 h2 h3 h4 h5
 · rintro rfl;exact ⟨rfl,rfl,rfl,rfl,rfl⟩
theorem eqSnaps (x y:Operand) (r s:SnapD) (w:World):(eqlS .eql 89 x y (.agg (snapC r).toArray) (.agg (snapC s).toArray)).run Tryz.prog w=.ok (.bool (snapEqB r s)) w∧(eqlS .neq 89 x y (.agg (snapC r).toArray) (.agg (snapC s).toArray)).run Tryz.prog w=.ok (.bool (!snapEqB r s)) w:=by
 have hA:∀w,(isAgg 87).run Tryz.prog w=.ok true w:=fun w=>Tryz.isAgg87 w
 have hZ:∀w,(sizeOf 87).run Tryz.prog w=.ok 32 w:=fun w=>Tryz.sizeOf87 w
 have hB1:∀w,(sizeOf 5).run Tryz.prog w=.ok 1 w:=fun w=>Tryz.sizeOf5 w
 have hiA:∀w,(isAgg 3).run Tryz.prog w=.ok false w:=fun w=>Tryz.isAgg3 w
 have hsA:∀w,(isAgg 9).run Tryz.prog w=.ok false w:=fun w=>Tryz.isAgg9 w
 have hpi:∀q:SnapD,(part 87 (snapC q).toArray 4).run Tryz.prog w=.ok (.agg (bv q.root).toArray) w:=fun q=>by
   have:(snapC q).toArray.extract 4 (4+32)=(bv q.root).toArray:=by
     apply Array.ext'
     simp only [List.extract_toArray,List.extract_eq_take_drop,snapC]
     show List.take 32 (bv q.root)=_
     rw [List.take_of_length_le (by simp [q.rl])]
   simp only [part,Sem.run_bind,hA,Result.andThen_ok,if_true,hZ,Sem.run_pure,this]
 have hps:∀q:SnapD,(part 9 (snapC q).toArray 0).run Tryz.prog w=.ok (strV q.name) w:=fun q=>by simp [part,hsA,snapC]
 have hpn:∀(q:SnapD) (o:Nat) (v:Value),(snapC q)[o]?=some v→(part 3 (snapC q).toArray o).run Tryz.prog w=.ok v w:=fun q o v h=>by simp [part,hiA,h]
 have hid:(Op.equalIn 9999 87 (.agg (bv r.root).toArray) (.agg (bv s.root).toArray)).run Tryz.prog w=.ok (decide (r.root=s.root)) w:=by
   rw [bv_ints,bv_ints]
   have:=eq_arrG (P:=Tryz.prog) (d:=9998) (T:=87) Tryz.underlying87 hB1 (fun w=>Tryz.isAgg5 w) (fun a b w=>by rw [run_equalIn_int w 9997 _ .u8 .u8 a b bE]) (r.root.map fun b=>(b.toNat:Int)) (s.root.map fun b=>(b.toNat:Int)) (by simp [r.rl]) (by simp [s.rl]) w
   simpa only [bvI_inj] using this
 have hint:∀a b:Int,(Op.equalIn 9999 3 (.int .i64 a) (.int .i64 b)).run Tryz.prog w=.ok (a==b) w:=fun a b=>by rw [run_equalIn_int w 9998 _ .i64 .i64 a b Tryz.underlying3]
 have hstr:(Op.equalIn 9999 9 (strV r.name) (strV s.name)).run Tryz.prog w=.ok (decide (r.name=s.name)) w:=by
   rw [←strEq]
   exact run_equalIn_string w 9998 _ _ _ Tryz.underlying9
 have key:∀fs:List Field,(fs.map fun f=>(f.type,f.offset))=[(9,0),(3,1),(3,2),(3,3),(87,4)]→(fs.all fun f=>f.name != "_")=true→(Op.eqFields 9999 (snapC r).toArray (snapC s).toArray fs).run Tryz.prog w=.ok (snapEqB r s) w:=by
   intro fs h1 h2
   rcases fs with _ | ⟨f0,_ | ⟨f1,_ | ⟨f2,_ | ⟨f3,_ | ⟨f4,_ | ⟨f5,fs⟩⟩⟩⟩⟩⟩
   case cons.cons.cons.cons.cons.nil=>
     simp only [List.map_cons,List.map_nil,List.cons.injEq,Prod.mk.injEq,and_true] at h1
     simp only [List.all_cons,List.all_nil,Bool.and_true,Bool.and_eq_true,bne_iff_ne] at h2
     obtain ⟨⟨a0,b0⟩,⟨a1,b1⟩,⟨a2,b2⟩,⟨a3,b3⟩,a4,b4⟩:=h1
     obtain ⟨n0,n1,n2,n3,n4⟩:=h2
     exact eqFields_step n0 (by rw [a0,b0];exact hps r) (by rw [a0,b0];exact hps s) (by rw [a0];exact hstr)
       (eqFields_step n1 (by rw [a1,b1];exact hpn r 1 _ rfl) (by rw [a1,b1];exact hpn s 1 _ rfl) (by rw [a1];exact hint _ _)
       (eqFields_step n2 (by rw [a2,b2];exact hpn r 2 _ rfl) (by rw [a2,b2];exact hpn s 2 _ rfl) (by rw [a2];exact hint _ _)
       (eqFields_step n3 (by rw [a3,b3];exact hpn r 3 _ rfl) (by rw [a3,b3];exact hpn s 3 _ rfl) (by rw [a3];exact hint _ _)
       (eqFields_step n4 (by rw [a4,b4];exact hpi r) (by rw [a4,b4];exact hpi s) (by rw [a4];exact hid) (by simp [Op.eqFields])))))
   all_goals simp at h1
 exact eqS_struct (by kernel_rfl) (by kernel_rfl) (by kernel_rfl) x y (key _ snap_fields snap_names)

end Go.Proofs.YtpmhjnhgpplmnaaGreatDoor
end

section
namespace Go.Proofs.YtpmhjnhgpplmnaaGreatDoor
open Go Sx
set_option maxRecDepth 8000

theorem snEqual_spec (a : Option Addr) (n c : Nat) (l : List SnapD) (a2 : Option Addr) (n2 c2 : Nat) (l2 : List SnapD) (w : World) (h1 : RdS w a n c l) (h2 : RdS w a2 n2 c2 l2) (hb : n ≤ 4611686018427387904) :
   Calls Tryz.prog 107 #[.slice a n c,.slice a2 n2 c2] w fun e w'=>∃b:Bool,e=.returned (.bool b)∧(b=true↔l=l2)∧Chg [] w w':=by
 have hl:=h1.num (by decide)
 have hl2:=h2.num (by decide)
 apply slices_Equal_api_Snapshot_api_Snapshot_vc
 refine ⟨fun hne=>⟨false,rfl,⟨fun h=>(by cases h),fun h=>?_⟩,Chg.refl _ _⟩,fun heq=>?_⟩
 · subst h
   have:n=n2:=by omega
   subst this
   simp at hne
 have hnn : n = n2 := by have : ((n : Nat) : Int) = (n2 : Int) := by simpa using heq
                         omega
 refine ⟨fun x w'=>∃i:Nat,x=(i:Int)∧i≤n∧l.take i=l2.take i∧Chg [] w w',fun x _=>n-x.toNat,⟨0,rfl,by omega,by simp,Chg.refl _ _⟩,?_⟩
 rintro x w1 ⟨i,rfl,hi,hT,c1⟩
 refine ⟨fun hlt=>?_,fun hge=>?_⟩
 · have hi':i<n:=by simp at hlt;omega
   obtain ⟨s,hs⟩:∃s,l[i]?=some s:=⟨_,List.getElem?_eq_getElem (by omega)⟩
   obtain ⟨t,ht⟩:∃t,l2[i]?=some t:=⟨_,List.getElem?_eq_getElem (by omega)⟩
   obtain ⟨b1,o1,ha1,ld1'⟩:=h1.ld (P:=Tryz.prog) (by decide) snA snS hs
   obtain ⟨b2,o2,ha2,ld2'⟩:=h2.ld (P:=Tryz.prog) (by decide) snA snS ht
   have cd:=c1.trans (Chg.drew [] w1)
   let S:World→Prop:=fun w'=>Chg [] w w'
   refine ⟨S,cd,b1,o1,ha1,by omega,by omega,b2,o2,ha2,by omega,by omega,_,fun w' hw=>ld1' w' (h1.keep0 hw),_,fun w' hw=>ld2' w' (h2.keep0 hw),_,fun w' _=>(eqSnaps _ _ s t w').2,fun hne=>⟨false,rfl,⟨fun h=>(by cases h),fun h=>?_⟩,cd⟩,fun hq=>⟨⟨i+1,wrap_succ hi' (by omega),by omega,?_,cd⟩,mu_succ hi' (by omega)⟩⟩
   · subst h
     rw [hs] at ht
     obtain rfl:=Option.some.inj ht
     rw [(snapEqB_iff s s).2 rfl] at hne
     simp at hne
   · have:s=t:=(snapEqB_iff s t).1 (by simpa using hq)
     subst this
     rw [List.take_add_one,List.take_add_one,hT,hs,ht]
 · have hi':i=n:=by simp at hge;omega
   refine ⟨true,rfl,⟨fun _=>?_,fun _=>rfl⟩,c1⟩
   rw [hi',←hl,List.take_length,hl,hnn,←hl2,List.take_length] at hT
   exact hT

theorem pq_fields:((Tryz.prog.fieldsOf 91).toList.map fun f=>(f.type,f.offset))=[(3,0),(3,1),(3,2)]:=by kernel_rfl
theorem pq_names:((Tryz.prog.fieldsOf 91).toList.all fun f=>f.name != "_")=true:=by kernel_rfl
def pkEqB (p q:PkD):Bool:=(p.num==q.num)&&((p.size==q.size)&&((p.count==q.count)&&true))
theorem pkEqB_iff (p q:PkD):pkEqB p q=true↔p=q:=by
 unfold pkEqB
 simp only [Bool.and_true,Bool.and_eq_true,beq_iff_eq]
 constructor
 · rintro ⟨h1,h2,h3⟩
   cases p;cases q;simp_all
 · rintro rfl;exact ⟨rfl,rfl,rfl⟩
theorem eqPkD (x y:Operand) (p q:PkD) (w:World):(eqlS .neq 91 x y (.agg (pkC p).toArray) (.agg (pkC q).toArray)).run Tryz.prog w=.ok (.bool (!pkEqB p q)) w:=by
 have hpn:∀(r:PkD) (o:Nat) (v:Value),(pkC r)[o]?=some v→(part 3 (pkC r).toArray o).run Tryz.prog w=.ok v w:=fun r o v h=>by simp [part,p64A,h]
 have hint:∀a b:Int,(Op.equalIn 9999 3 (.int .i64 a) (.int .i64 b)).run Tryz.prog w=.ok (a==b) w:=fun a b=>by rw [run_equalIn_int w 9998 _ .i64 .i64 a b Tryz.underlying3]
 have key:∀fs:List Field,(fs.map fun f=>(f.type,f.offset))=[(3,0),(3,1),(3,2)]→(fs.all fun f=>f.name != "_")=true→(Op.eqFields 9999 (pkC p).toArray (pkC q).toArray fs).run Tryz.prog w=.ok (pkEqB p q) w:=by
   intro fs h1 h2
   rcases fs with _ | ⟨f0,_ | ⟨f1,_ | ⟨f2,_ | ⟨f3,fs⟩⟩⟩⟩
   case cons.cons.cons.nil=>
     simp only [List.map_cons,List.map_nil,List.cons.injEq,Prod.mk.injEq,and_true] at h1
     simp only [List.all_cons,List.all_nil,Bool.and_true,Bool.and_eq_true,bne_iff_ne] at h2
     obtain ⟨⟨a0,b0⟩,⟨a1,b1⟩,a2,b2⟩:=h1
     obtain ⟨n0,n1,n2⟩:=h2
     exact eqFields_step n0 (by rw [a0,b0];exact hpn p 0 _ rfl) (by rw [a0,b0];exact hpn q 0 _ rfl) (by rw [a0];exact hint _ _)
       (eqFields_step n1 (by rw [a1,b1];exact hpn p 1 _ rfl) (by rw [a1,b1];exact hpn q 1 _ rfl) (by rw [a1];exact hint _ _)
       (eqFields_step n2 (by rw [a2,b2];exact hpn p 2 _ rfl) (by rw [a2,b2];exact hpn q 2 _ rfl) (by rw [a2];exact hint _ _) (by simp [Op.eqFields])))
   all_goals simp at h1
 have:=(eqS_struct (by kernel_rfl) (by kernel_rfl) (by kernel_rfl) x y (key _ pq_fields pq_names)).2
 exact this
theorem pqEqual_spec (a : Option Addr) (n c : Nat) (l : List PkD) (a2 : Option Addr) (n2 c2 : Nat) (l2 : List PkD) (w : World) (h1 : RdE pkC 3 w a n c l) (h2 : RdE pkC 3 w a2 n2 c2 l2) (hb : n ≤ 4611686018427387904) :
   Calls Tryz.prog 108 #[.slice a n c,.slice a2 n2 c2] w fun e w'=>∃b:Bool,e=.returned (.bool b)∧(b=true↔l=l2)∧Chg [] w w':=by
 have hl:=h1.num (by decide)
 have hl2:=h2.num (by decide)
 apply slices_Equal_api_Pack_api_Pack_vc
 refine ⟨fun hne=>⟨false,rfl,⟨fun h=>(by cases h),fun h=>?_⟩,Chg.refl _ _⟩,fun heq=>?_⟩
 · subst h
   have:n=n2:=by omega
   subst this
   simp at hne
 have hnn : n = n2 := by have : ((n : Nat) : Int) = (n2 : Int) := by simpa using heq
                         omega
 refine ⟨fun x w'=>∃i:Nat,x=(i:Int)∧i≤n∧l.take i=l2.take i∧Chg [] w w',fun x _=>n-x.toNat,⟨0,rfl,by omega,by simp,Chg.refl _ _⟩,?_⟩
 rintro x w1 ⟨i,rfl,hi,hT,c1⟩
 refine ⟨fun hlt=>?_,fun hge=>?_⟩
 · have hi':i<n:=by simp at hlt;omega
   obtain ⟨s,hs⟩:∃s,l[i]?=some s:=⟨_,List.getElem?_eq_getElem (by omega)⟩
   obtain ⟨t,ht⟩:∃t,l2[i]?=some t:=⟨_,List.getElem?_eq_getElem (by omega)⟩
   obtain ⟨b1,o1,ha1,ld1'⟩:=h1.ld (P:=Tryz.prog) (by decide) pqA pqS hs
   obtain ⟨b2,o2,ha2,ld2'⟩:=h2.ld (P:=Tryz.prog) (by decide) pqA pqS ht
   have cd:=c1.trans (Chg.drew [] w1)
   let S:World→Prop:=fun w'=>Chg [] w w'
   refine ⟨S,cd,b1,o1,ha1,by omega,by omega,b2,o2,ha2,by omega,by omega,_,fun w' hw=>ld1' w' (h1.keep0 hw),_,fun w' hw=>ld2' w' (h2.keep0 hw),_,fun w' _=>eqPkD _ _ s t w',fun hne=>⟨false,rfl,⟨fun h=>(by cases h),fun h=>?_⟩,cd⟩,fun hq=>⟨⟨i+1,wrap_succ hi' (by omega),by omega,?_,cd⟩,mu_succ hi' (by omega)⟩⟩
   · subst h
     rw [hs] at ht
     obtain rfl:=Option.some.inj ht
     rw [(pkEqB_iff s s).2 rfl] at hne
     simp at hne
   · have:s=t:=(pkEqB_iff s t).1 (by simpa using hq)
     subst this
     rw [List.take_add_one,List.take_add_one,hT,hs,ht]
 · have hi':i=n:=by simp at hge;omega
   refine ⟨true,rfl,⟨fun _=>?_,fun _=>rfl⟩,c1⟩
   rw [hi',←hl,List.take_length,hl,hnn,←hl2,List.take_length] at hT
   exact hT

end Go.Proofs.YtpmhjnhgpplmnaaGreatDoor
end

section
namespace Go.Proofs.YtpmhjnhgpplmnaaGreatDoor
open Go Sx
set_option maxRecDepth 8000

theorem se_fields:((Tryz.prog.fieldsOf 44).toList.map fun f=>(f.type,f.offset))=[(42,0),(3,1),(3,2),(3,3),(3,4)]:=by kernel_rfl
theorem se_names:((Tryz.prog.fieldsOf 44).toList.all fun f=>f.name != "_")=true:=by kernel_rfl
def setEqB (p q:SetD):Bool:=((p.poly:Int)==(q.poly:Int))&&((p.win==q.win)&&((p.min==q.min)&&((p.max==q.max)&&((p.bits==q.bits)&&true))))
theorem setEqB_iff (p q:SetD):setEqB p q=true↔p=q:=by
 unfold setEqB
 simp only [Bool.and_true,Bool.and_eq_true,beq_iff_eq]
 constructor
 · rintro ⟨h0,h1,h2,h3,h4⟩
   cases p;cases q
   simp only at h0 h1 h2 h3 h4
   have:∀a b:Nat,(a:Int)=(b:Int)→a=b:=fun a b h=>by omega
   rw [this _ _ h0,h1,h2,h3,h4]
 · rintro rfl;exact ⟨rfl,rfl,rfl,rfl,rfl⟩
theorem eqSet (x y:Operand) (p q:SetD) (w:World):(eqlS .eql 44 x y (.agg (setC p).toArray) (.agg (setC q).toArray)).run Tryz.prog w=.ok (.bool (setEqB p q)) w∧(eqlS .neq 44 x y (.agg (setC p).toArray) (.agg (setC q).toArray)).run Tryz.prog w=.ok (.bool (!setEqB p q)) w:=by
 have hpn:∀(r:SetD) (o:Nat) (v:Value),(setC r)[o]?=some v→(part 3 (setC r).toArray o).run Tryz.prog w=.ok v w:=fun r o v h=>by simp [part,p64A,h]
 have hpu:∀(r:SetD) (o:Nat) (v:Value),(setC r)[o]?=some v→(part 42 (setC r).toArray o).run Tryz.prog w=.ok v w:=fun r o v h=>by simp [part,u64A,h]
 have hint:∀a b:Int,(Op.equalIn 9999 3 (.int .i64 a) (.int .i64 b)).run Tryz.prog w=.ok (a==b) w:=fun a b=>by rw [run_equalIn_int w 9998 _ .i64 .i64 a b Tryz.underlying3]
 have huin:∀a b:Int,(Op.equalIn 9999 42 (.int .u64 a) (.int .u64 b)).run Tryz.prog w=.ok (a==b) w:=fun a b=>by rw [run_equalIn_int w 9998 _ .u64 .u64 a b Tryz.underlying42]
 have key:∀fs:List Field,(fs.map fun f=>(f.type,f.offset))=[(42,0),(3,1),(3,2),(3,3),(3,4)]→(fs.all fun f=>f.name != "_")=true→(Op.eqFields 9999 (setC p).toArray (setC q).toArray fs).run Tryz.prog w=.ok (setEqB p q) w:=by
   intro fs h1 h2
   rcases fs with _ | ⟨f0,_ | ⟨f1,_ | ⟨f2,_ | ⟨f3,_ | ⟨f4,_ | ⟨f5,fs⟩⟩⟩⟩⟩⟩
   case cons.cons.cons.cons.cons.nil=>
     simp only [List.map_cons,List.map_nil,List.cons.injEq,Prod.mk.injEq,and_true] at h1
     simp only [List.all_cons,List.all_nil,Bool.and_true,Bool.and_eq_true,bne_iff_ne] at h2
     obtain ⟨⟨a0,b0⟩,⟨a1,b1⟩,⟨a2,b2⟩,⟨a3,b3⟩,a4,b4⟩:=h1
     obtain ⟨n0,n1,n2,n3,n4⟩:=h2
     exact eqFields_step n0 (by rw [a0,b0];exact hpu p 0 _ rfl) (by rw [a0,b0];exact hpu q 0 _ rfl) (by rw [a0];exact huin _ _)
       (eqFields_step n1 (by rw [a1,b1];exact hpn p 1 _ rfl) (by rw [a1,b1];exact hpn q 1 _ rfl) (by rw [a1];exact hint _ _)
       (eqFields_step n2 (by rw [a2,b2];exact hpn p 2 _ rfl) (by rw [a2,b2];exact hpn q 2 _ rfl) (by rw [a2];exact hint _ _)
       (eqFields_step n3 (by rw [a3,b3];exact hpn p 3 _ rfl) (by rw [a3,b3];exact hpn q 3 _ rfl) (by rw [a3];exact hint _ _)
       (eqFields_step n4 (by rw [a4,b4];exact hpn p 4 _ rfl) (by rw [a4,b4];exact hpn q 4 _ rfl) (by rw [a4];exact hint _ _) (by simp [Op.eqFields])))))
   all_goals simp at h1
 exact eqS_struct (by kernel_rfl) (by kernel_rfl) (by kernel_rfl) x y (key _ se_fields se_names)

end Go.Proofs.YtpmhjnhgpplmnaaGreatDoor
end

section
namespace Go.Proofs.YtpmhjnhgpplmnaaGreatDoor
open Go Sx
set_option maxRecDepth 8000

theorem CatD.ext' {C D:CatD} (h1:C.gen=D.gen) (h2:C.next=D.next) (h3:C.set=D.set) (h4:C.snaps=D.snaps) (h5:C.packs=D.packs):C=D:=by
 cases C;cases D;simp_all
theorem catSame_spec (C D:CatD) (sa:Option Addr) (sn sc:Nat) (pa:Option Addr) (pn pc:Nat) (sa2:Option Addr) (sn2 sc2:Nat) (pa2:Option Addr) (pn2 pc2:Nat) (w:World) (h1:CatR w C sa sn sc pa pn pc) (h2:CatR w D sa2 sn2 sc2 pa2 pn2 pc2) (hs:sn≤4611686018427387904) (hp:pn≤4611686018427387904):
   Calls Tryz.prog 39 #[.agg (catC C sa sn sc pa pn pc).toArray,.agg (catC D sa2 sn2 sc2 pa2 pn2 pc2).toArray] w fun e w'=>∃b:Bool,e=.returned (.bool b)∧(b=true↔C=D)∧Chg [] w w':=by
 apply catalog_Same_vc
 obtain ⟨g2,w1,r1,k1⟩:=(St.start w).boxA (P:=Tryz.prog) 47 (catC C sa sn sc pa pn pc)
 obtain ⟨g3,w2,r2,k2⟩:=k1.boxA (P:=Tryz.prog) 47 (catC D sa2 sn2 sc2 pa2 pn2 pc2)
 have k2:St w [] w2 [.arr g2 47 (catC C sa sn sc pa pn pc),.arr g3 47 (catC D sa2 sn2 sc2 pa2 pn2 pc2)]:=k2
 have f1:=k2.ldL (i:=0) (o:=0) (T:=3) (v:=.int .i64 C.gen) rfl (p64A _) rfl rfl
 have f2:=k2.ldL (i:=1) (o:=0) (T:=3) (v:=.int .i64 D.gen) rfl (p64A _) rfl rfl
 have f3:=k2.ldL (i:=0) (o:=1) (T:=3) (v:=.int .i64 C.next) rfl (p64A _) rfl rfl
 have f4:=k2.ldL (i:=1) (o:=1) (T:=3) (v:=.int .i64 D.next) rfl (p64A _) rfl rfl
 refine ⟨g2,w1,r1,g3,w2,r2,_,f1,_,f2,fun e1=>⟨_,f3,_,f4,fun e2=>⟨_,k2.ldP (i:=0) (o:=2) (n:=5) (xs:=setC C.set) rfl (seA _) (seS _) rfl rfl,_,k2.ldP (i:=1) (o:=2) (n:=5) (xs:=setC D.set) rfl (seA _) (seS _) rfl rfl,_,(eqSet _ _ C.set D.set w2).1,fun e3=>⟨_,_,_,k2.ldL (i:=0) (o:=7) rfl (ssA _) rfl rfl,_,_,_,k2.ldL (i:=1) (o:=7) rfl (ssA _) rfl rfl,(snEqual_spec sa sn sc C.snaps sa2 sn2 sc2 D.snaps w2 (h1.snaps.keep0 k2.chg) (h2.snaps.keep0 k2.chg) hs).mono ?_⟩,fun e3=>⟨false,rfl,⟨fun h=>(by cases h),fun h=>?_⟩,k2.chg⟩⟩,fun e2=>⟨false,rfl,⟨fun h=>(by cases h),fun h=>?_⟩,k2.chg⟩⟩,fun e1=>⟨false,rfl,⟨fun h=>(by cases h),fun h=>?_⟩,k2.chg⟩⟩
 · rintro e w3 ⟨b,rfl,hb,c3⟩
   have k3:=k2.same c3
   refine ⟨_,rfl,fun e4=>⟨_,_,_,k3.ldL (i:=0) (o:=8) rfl (psA _) rfl rfl,_,_,_,k3.ldL (i:=1) (o:=8) rfl (psA _) rfl rfl,(pqEqual_spec pa pn pc C.packs pa2 pn2 pc2 D.packs w3 (h1.packs.keep0 k3.chg) (h2.packs.keep0 k3.chg) hp).mono ?_⟩,fun e4=>⟨false,rfl,⟨fun h=>(by cases h),fun h=>?_⟩,k3.chg⟩⟩
   · rintro e w4 ⟨b2,rfl,hb2,c4⟩
     refine ⟨_,rfl,b2,rfl,?_,k3.chg.trans c4⟩
     rw [hb2]
     have q1:C.gen=D.gen:=by simpa using e1
     have q2:C.next=D.next:=by simpa using e2
     exact ⟨fun h5=>CatD.ext' q1 q2 ((setEqB_iff _ _).1 e3) (hb.1 e4) h5,fun h=>by rw [h]⟩
   · have:=hb.2 (by rw [h])
     rw [this] at e4;cases e4
 · have:=(setEqB_iff C.set D.set).2 (by rw [h])
   rw [this] at e3;cases e3
 · rw [h] at e2;simp at e2
 · rw [h] at e1;simp at e1

end Go.Proofs.YtpmhjnhgpplmnaaGreatDoor
end

section
namespace Go.Proofs.YtpmhjnhgpplmnaaGreatDoor
open Go Sx
set_option maxRecDepth 8000

set_option maxHeartbeats 2000000 in
theorem rSame16_spec (C D:CatD) (sa:Option Addr) (sn sc:Nat) (pa:Option Addr) (pn pc:Nat) (sa2:Option Addr) (sn2 sc2:Nat) (pa2:Option Addr) (pn2 pc2:Nat) (w:World) (h1:CatR w C sa sn sc pa pn pc) (h2:CatR w D sa2 sn2 sc2 pa2 pn2 pc2) (hs:sn≤4611686018427387904) (hp:pn≤4611686018427387904):
   Calls Tryz.prog 24 #[.agg (catC C sa sn sc pa pn pc).toArray,.agg (catC D sa2 sn2 sc2 pa2 pn2 pc2).toArray] w fun e w'=>∃b:Bool,e=.returned (.bool b)∧(b=true↔C=D)∧Chg [] w w':=by
 have l1:=h1.snaps.num (by decide)
 have l2:=h2.snaps.num (by decide)
 have m1:=h1.packs.num (by decide)
 have m2:=h2.packs.num (by decide)
 apply amphoraref16_Same_vc
 obtain ⟨g2,w1,r1,k1⟩:=(St.start w).boxA (P:=Tryz.prog) 47 (catC C sa sn sc pa pn pc)
 obtain ⟨g3,w2,r2,k2⟩:=k1.boxA (P:=Tryz.prog) 47 (catC D sa2 sn2 sc2 pa2 pn2 pc2)
 let S:World→Prop:=fun w'=>St w [] w' [.arr g2 47 (catC C sa sn sc pa pn pc),.arr g3 47 (catC D sa2 sn2 sc2 pa2 pn2 pc2)]
 have k2:S w2:=k2
 have f1:=Sx.St.ldL k2 (i:=0) (o:=0) (T:=3) (v:=.int .i64 C.gen) rfl (p64A _) rfl rfl
 have f2:=Sx.St.ldL k2 (i:=1) (o:=0) (T:=3) (v:=.int .i64 D.gen) rfl (p64A _) rfl rfl
 have f3:=Sx.St.ldL k2 (i:=0) (o:=1) (T:=3) (v:=.int .i64 C.next) rfl (p64A _) rfl rfl
 have f4:=Sx.St.ldL k2 (i:=1) (o:=1) (T:=3) (v:=.int .i64 D.next) rfl (p64A _) rfl rfl
 have s1:∀ {w'},S w'→(Instr.loadAt 25 (.pointer (some ⟨g2,7,none⟩))).run Tryz.prog w'=.ok (.slice sa sn sc) w':=fun hw=>Sx.St.ldL hw (i:=0) (o:=7) rfl (ssA _) rfl rfl
 have s2:∀ {w'},S w'→(Instr.loadAt 25 (.pointer (some ⟨g3,7,none⟩))).run Tryz.prog w'=.ok (.slice sa2 sn2 sc2) w':=fun hw=>Sx.St.ldL hw (i:=1) (o:=7) rfl (ssA _) rfl rfl
 have p1:∀ {w'},S w'→(Instr.loadAt 45 (.pointer (some ⟨g2,8,none⟩))).run Tryz.prog w'=.ok (.slice pa pn pc) w':=fun hw=>Sx.St.ldL hw (i:=0) (o:=8) rfl (psA _) rfl rfl
 have p2:∀ {w'},S w'→(Instr.loadAt 45 (.pointer (some ⟨g3,8,none⟩))).run Tryz.prog w'=.ok (.slice pa2 pn2 pc2) w':=fun hw=>Sx.St.ldL hw (i:=1) (o:=8) rfl (psA _) rfl rfl
 let B:Bool→World→Prop:=fun b w'=>(b=true→C≠D)∧(b=false→C.gen=D.gen∧C.next=D.next∧C.set=D.set∧sn=sn2∧pn=pn2)∧S w'
 refine ⟨g2,w1,r1,g3,w2,r2,B,⟨_,f1,_,f2,fun e1=>⟨fun _ h=>?_,fun h=>(by cases h),k2⟩,fun e1=>⟨_,f3,_,f4,fun e2=>⟨fun _ h=>?_,fun h=>(by cases h),k2⟩,fun e2=>⟨_,Sx.St.ldP k2 (i:=0) (o:=2) (n:=5) (xs:=setC C.set) rfl (seA _) (seS _) rfl rfl,_,Sx.St.ldP k2 (i:=1) (o:=2) (n:=5) (xs:=setC D.set) rfl (seA _) (seS _) rfl rfl,_,(eqSet _ _ C.set D.set w2).2,fun e3=>⟨fun _ h=>?_,fun h=>(by cases h),k2⟩,fun e3=>⟨_,_,_,s1 k2,_,_,_,s2 k2,fun e4=>⟨fun _ h=>?_,fun h=>(by cases h),k2⟩,fun e4=>⟨_,_,_,p1 k2,_,_,_,p2 k2,fun e5 h=>?_,fun e5=>?_,k2⟩⟩⟩⟩⟩,?_⟩
 · rw [h] at e1;simp at e1
 · rw [h] at e2;simp at e2
 · rw [(setEqB_iff C.set D.set).2 (by rw [h])] at e3;cases e3
 · have:sn=sn2:=by rw [←l1,←l2,h]
   rw [this] at e4;simp at e4
 · have:pn=pn2:=by rw [←m1,←m2,h]
   rw [this] at e5;simp at e5
 · refine ⟨by simpa using e1,by simpa using e2,(setEqB_iff _ _).1 (by simpa using e3),?_,?_⟩
   · have:((sn:Nat):Int)=(sn2:Int):=by simpa using e4
     omega
   · have:((pn:Nat):Int)=(pn2:Int):=by simpa using e5
     omega
 rintro b w3 ⟨hb1,hb2,k3⟩
 refine ⟨fun hb=>⟨false,rfl,⟨fun h=>(by cases h),fun h=>absurd h (hb1 hb)⟩,Sx.St.chg k3⟩,fun hb=>?_⟩
 obtain ⟨q1,q2,q3,q4,q5⟩:=hb2 hb
 refine ⟨fun x w'=>∃i:Nat,x=(i:Int)∧i≤sn∧C.snaps.take i=D.snaps.take i∧S w',fun x _=>sn-x.toNat,⟨0,rfl,by omega,by simp,k3⟩,?_⟩
 rintro x w4 ⟨i,rfl,hi,hT,k4⟩
 refine ⟨_,_,_,s1 k4,fun hlt=>?_,fun hge=>?_⟩
 · have hi':i<sn:=by simp at hlt;omega
   obtain ⟨s,hs'⟩:∃s,C.snaps[i]?=some s:=⟨_,List.getElem?_eq_getElem (by omega)⟩
   obtain ⟨t,ht⟩:∃t,D.snaps[i]?=some t:=⟨_,List.getElem?_eq_getElem (by omega)⟩
   obtain ⟨b1,o1,ha1,ld1'⟩:=h1.snaps.ld (P:=Tryz.prog) (by decide) snA snS hs'
   obtain ⟨b2,o2,ha2,ld2'⟩:=h2.snaps.ld (P:=Tryz.prog) (by decide) snA snS ht
   have k4d:S w4.drew:=Sx.St.drew k4
   refine ⟨S,k4d,_,_,_,fun w' hw=>s1 hw,b1,o1,ha1,by omega,by omega,_,fun w' hw=>ld1' w' (h1.snaps.keep0 (Sx.St.chg hw)),_,_,_,fun w' hw=>s2 hw,b2,o2,ha2,by omega,by omega,_,fun w' hw=>ld2' w' (h2.snaps.keep0 (Sx.St.chg hw)),_,fun w' _=>(eqSnaps _ _ s t w').2,fun hne=>⟨false,rfl,⟨fun h=>(by cases h),fun h=>?_⟩,Sx.St.chg k4d⟩,fun hq=>⟨⟨i+1,wrap_succ hi' (by omega),by omega,?_,k4d⟩,mu_succ hi' (by omega)⟩⟩
   · rw [h,ht] at hs'
     obtain rfl:=Option.some.inj hs'
     rw [(snapEqB_iff t t).2 rfl] at hne
     simp at hne
   · have:s=t:=(snapEqB_iff s t).1 (by simpa using hq)
     subst this
     rw [List.take_add_one,List.take_add_one,hT,hs',ht]
 · have hi':i=sn:=by simp at hge;omega
   have hS:C.snaps=D.snaps:=by
     rw [hi',←l1,List.take_length,l1,q4,←l2,List.take_length] at hT
     exact hT
   refine ⟨fun x w'=>∃i:Nat,x=(i:Int)∧i≤pn∧C.packs.take i=D.packs.take i∧S w',fun x _=>pn-x.toNat,⟨0,rfl,by omega,by simp,k4⟩,?_⟩
   rintro x w5 ⟨j,rfl,hj,hT2,k5⟩
   refine ⟨_,_,_,p1 k5,fun hlt=>?_,fun hge=>?_⟩
   · have hj':j<pn:=by simp at hlt;omega
     obtain ⟨s,hs'⟩:∃s,C.packs[j]?=some s:=⟨_,List.getElem?_eq_getElem (by omega)⟩
     obtain ⟨t,ht⟩:∃t,D.packs[j]?=some t:=⟨_,List.getElem?_eq_getElem (by omega)⟩
     obtain ⟨b1,o1,ha1,ld1'⟩:=h1.packs.ld (P:=Tryz.prog) (by decide) pqA pqS hs'
     obtain ⟨b2,o2,ha2,ld2'⟩:=h2.packs.ld (P:=Tryz.prog) (by decide) pqA pqS ht
     have k5d:S w5.drew:=Sx.St.drew k5
     refine ⟨S,k5d,_,_,_,fun w' hw=>p1 hw,b1,o1,ha1,by omega,by omega,_,fun w' hw=>ld1' w' (h1.packs.keep0 (Sx.St.chg hw)),_,_,_,fun w' hw=>p2 hw,b2,o2,ha2,by omega,by omega,_,fun w' hw=>ld2' w' (h2.packs.keep0 (Sx.St.chg hw)),_,fun w' _=>eqPkD _ _ s t w',fun hne=>⟨false,rfl,⟨fun h=>(by cases h),fun h=>?_⟩,Sx.St.chg k5d⟩,fun hq=>⟨⟨j+1,wrap_succ hj' (by omega),by omega,?_,k5d⟩,mu_succ hj' (by omega)⟩⟩
     · rw [h,ht] at hs'
       obtain rfl:=Option.some.inj hs'
       rw [(pkEqB_iff t t).2 rfl] at hne
       simp at hne
     · have:s=t:=(pkEqB_iff s t).1 (by simpa using hq)
       subst this
       rw [List.take_add_one,List.take_add_one,hT2,hs',ht]
   · have hj':j=pn:=by simp at hge;omega
     have hP:C.packs=D.packs:=by
       rw [hj',←m1,List.take_length,m1,q5,←m2,List.take_length] at hT2
       exact hT2
     exact ⟨true,rfl,⟨fun _=>CatD.ext' q1 q2 q3 hS hP,fun _=>rfl⟩,Sx.St.chg k5⟩

end Go.Proofs.YtpmhjnhgpplmnaaGreatDoor
end

section
namespace Go.Proofs.YtpmhjnhgpplmnaaGreatDoor
open Go Sx
set_option maxRecDepth 8000

theorem snT:ElemT Tryz.prog 25 89 36 72 (.agg ([strV [],.int .i64 0,.int .i64 0,.int .i64 0]++bv (List.replicate 32 0)).toArray):=⟨by kernel_rfl,⟨Tryz.t89,by kernel_rfl,by kernel_rfl,by kernel_rfl,by kernel_rfl⟩,rfl,by decide⟩
theorem snClone_spec (a:Option Addr) (n c:Nat) (l:List SnapD) (w:World) (h:RdS w a n c l) (hn:n≤1000000):
   Calls Tryz.prog 109 #[.slice a n c] w fun e w'=>∃a' c',e=.returned (.slice a' n c')∧St w [] w' [.row 89 36 (.slice a' n c') n (l.flatMap snapC)]:=by
 apply slices_Clone_api_Snapshot_api_Snapshot_vc
 refine ⟨fun h0=>?_,fun h0=>?_⟩
 · have ha:a=none:=by simpa using h0
   subst ha
   have hn0:n=0:=by have:=h.rd.nil rfl;have:=h.rd.le;omega
   subst hn0
   have hl:l=[]:=List.eq_nil_of_length_eq_zero (h.num (by decide))
   subst hl
   exact ⟨none,0,rfl,(St.start w).addNil 89 36⟩
 · obtain ⟨ga,w1,r1,k1⟩:=(St.start w).litA0 snT
   have h1:=h.keep0 k1.chg
   obtain ⟨va,vc,w2,r2,k2,_,_⟩:=k1.append (i:=0) (ty:=25) snT rfl h1.rd (fun v hv=>by
     obtain ⟨s,_,hs⟩:=List.mem_flatMap.1 hv
     exact snapC_one s v hs) (by omega) (by simp only [maxLen];omega)
   rw [Nat.zero_add] at r2 k2
   exact ⟨_,_,_,w1,r1,_,_,_,w2,r2,va,vc,rfl,k2⟩

theorem pqT:ElemT Tryz.prog 45 91 3 24 (.agg ([.int .i64 0,.int .i64 0,.int .i64 0]:List Value).toArray):=⟨by kernel_rfl,⟨Tryz.t91,by kernel_rfl,by kernel_rfl,by kernel_rfl,by kernel_rfl⟩,rfl,by decide⟩
theorem pqClone_spec (a:Option Addr) (n c:Nat) (l:List PkD) (w:World) (h:RdE pkC 3 w a n c l) (hn:n≤1000000):
   Calls Tryz.prog 110 #[.slice a n c] w fun e w'=>∃a' c',e=.returned (.slice a' n c')∧St w [] w' [.row 91 3 (.slice a' n c') n (l.flatMap pkC)]:=by
 apply slices_Clone_api_Pack_api_Pack_vc
 refine ⟨fun h0=>?_,fun h0=>?_⟩
 · have ha:a=none:=by simpa using h0
   subst ha
   have hn0:n=0:=by have:=h.rd.nil rfl;have:=h.rd.le;omega
   subst hn0
   have hl:l=[]:=List.eq_nil_of_length_eq_zero (h.num (by decide))
   subst hl
   exact ⟨none,0,rfl,(St.start w).addNil 91 3⟩
 · obtain ⟨ga,w1,r1,k1⟩:=(St.start w).litA0 pqT
   have h1:=h.keep0 k1.chg
   obtain ⟨va,vc,w2,r2,k2,_,_⟩:=k1.append (i:=0) (ty:=45) pqT rfl h1.rd (fun v hv=>by
     obtain ⟨s,_,hs⟩:=List.mem_flatMap.1 hv
     simp [pkC] at hs;rcases hs with rfl | rfl | rfl<;>rfl) (by omega) (by simp only [maxLen];omega)
   rw [Nat.zero_add] at r2 k2
   exact ⟨_,_,_,w1,r1,_,_,_,w2,r2,va,vc,rfl,k2⟩

end Go.Proofs.YtpmhjnhgpplmnaaGreatDoor
end

section
namespace Go.Proofs.YtpmhjnhgpplmnaaGreatDoor
open Go Sx
set_option maxRecDepth 8000

def catZ:List Value:=[.int .i64 0,.int .i64 0,.int .u64 0,.int .i64 0,.int .i64 0,.int .i64 0,.int .i64 0,.slice none 0 0,.slice none 0 0]
theorem caZ16 (w:World):(zeroValue 47).run Tryz.prog w=.ok (.agg catZ.toArray) w:=Tryz.zeroValue47 w
theorem caA16 (w:World):(isAgg 47).run Tryz.prog w=.ok true w:=Tryz.isAgg47 w
theorem caS16 (w:World):(sizeOf 47).run Tryz.prog w=.ok 9 w:=Tryz.sizeOf47 w
theorem ssS (w:World):(sizeOf 25).run Tryz.prog w=.ok 1 w:=Tryz.sizeOf25 w
theorem psS (w:World):(sizeOf 45).run Tryz.prog w=.ok 1 w:=Tryz.sizeOf45 w
theorem catC_one (C:CatD) (sa:Option Addr) (sn sc:Nat) (pa:Option Addr) (pn pc:Nat):∀v∈catC C sa sn sc pa pn pc,v.oneCell'=true:=fun v hv=>by
 simp only [catC,setC,List.cons_append,List.nil_append,List.mem_cons,List.not_mem_nil,or_false] at hv
 rcases hv with rfl | rfl | rfl | rfl | rfl | rfl | rfl | rfl | rfl<;>rfl
theorem catCopy_spec (C:CatD) (sa:Option Addr) (sn sc:Nat) (pa:Option Addr) (pn pc:Nat) (w:World) (h:CatR w C sa sn sc pa pn pc) (hs:sn≤1000000) (hp:pn≤1000000):
   Calls Tryz.prog 40 #[.agg (catC C sa sn sc pa pn pc).toArray] w fun e w'=>∃sa' sc' pa' pc',e=.returned (.agg (catC C sa' sn sc' pa' pn pc').toArray)∧St w [] w' [.row 89 36 (.slice sa' sn sc') sn (C.snaps.flatMap snapC),.row 91 3 (.slice pa' pn pc') pn (C.packs.flatMap pkC)]:=by
 apply catalog_Copy_vc
 obtain ⟨g1,w1,r1,k1⟩:=(St.start w).boxA (P:=Tryz.prog) 47 (catC C sa sn sc pa pn pc)
 obtain ⟨g2,w2,r2,k2⟩:=k1.zeroA caZ16
 let S:World→Prop:=fun w'=>St w [] w' [.arr g1 47 (catC C sa sn sc pa pn pc),.arr g2 47 catZ]
 have k2:S w2:=k2
 have k2d:S w2.drew:=Sx.St.drew k2
 refine ⟨g1,w1,r1,g2,w2,r2,S,k2d,_,_,_,fun w' hw=>Sx.St.ldL hw (i:=0) (o:=7) rfl (ssA _) rfl rfl,_,_,_,fun w' hw=>Sx.St.ldL hw (i:=0) (o:=8) rfl (psA _) rfl rfl,(snClone_spec sa sn sc C.snaps w2.drew (h.snaps.keep0 (Sx.St.chg k2d)) hs).mono ?_⟩
 rintro e w3 ⟨sa',sc',rfl,k3⟩
 have k3':S w3:=Sx.St.same k2d k3.chg
 have j3:=Sx.St.callPart (N:=[]) (by rw [List.append_nil];exact k2d) k3
 refine ⟨_,_,_,rfl,S,fun _ h=>h,k3',(pqClone_spec pa pn pc C.packs w3 (h.packs.keep0 (Sx.St.chg k3')) hp).mono ?_⟩
 rintro e w4 ⟨pa',pc',rfl,k4⟩
 have k4':S w4:=Sx.St.same k3' k4.chg
 have j4:=Sx.St.callPart (N:=[]) (by rw [List.append_nil];exact j3) k4
 have j4:St w [] w4 [.arr g1 47 (catC C sa sn sc pa pn pc),.arr g2 47 catZ,.row 89 36 (.slice sa' sn sc') sn (C.snaps.flatMap snapC),.row 91 3 (.slice pa' pn pc') pn (C.packs.flatMap pkC)]:=j4
 obtain ⟨w5,r5,j5⟩:=j4.stL (i:=0) (o:=7) (off:=7) (T:=25) (v:=.slice sa' sn sc') rfl (ssS _) rfl (by simp [catC,setC]) rfl
 obtain ⟨w6,r6,j6⟩:=j5.stL (i:=0) (o:=8) (off:=8) (T:=45) (v:=.slice pa' pn pc') rfl (psS _) rfl (by simp [catC,setC]) rfl
 have j6:St w [] w6 [.arr g1 47 (catC C sa' sn sc' pa' pn pc'),.arr g2 47 catZ,.row 89 36 (.slice sa' sn sc') sn (C.snaps.flatMap snapC),.row 91 3 (.slice pa' pn pc') pn (C.packs.flatMap pkC)]:=j6
 obtain ⟨w7,r7,j7⟩:=j6.stA (i:=1) (v:=catC C sa' sn sc' pa' pn pc') rfl (caS16 _) rfl rfl (catC_one _ _ _ _ _ _ _)
 have j7:St w [] w7 [.arr g1 47 (catC C sa' sn sc' pa' pn pc'),.arr g2 47 (catC C sa' sn sc' pa' pn pc'),.row 89 36 (.slice sa' sn sc') sn (C.snaps.flatMap snapC),.row 91 3 (.slice pa' pn pc') pn (C.packs.flatMap pkC)]:=j7
 refine ⟨_,_,_,rfl,S,fun _ h=>h,k4',w5,r5,w6,r6,_,j6.ldA (i:=0) (l:=catC C sa' sn sc' pa' pn pc') rfl (caA16 _) (caS16 _) rfl,w7,r7,_,j7.ldVarA (i:=1) rfl (caA16 _) (caS16 _) rfl,sa',sc',pa',pc',rfl,j7.sub (by simp)⟩

theorem rCopy16_spec (C:CatD) (sa:Option Addr) (sn sc:Nat) (pa:Option Addr) (pn pc:Nat) (w:World) (h:CatR w C sa sn sc pa pn pc) (hs:sn≤1000000) (hp:pn≤1000000):
   Calls Tryz.prog 34 #[.agg (catC C sa sn sc pa pn pc).toArray] w fun e w'=>∃sa' sc' pa' pc',e=.returned (.agg (catC C sa' sn sc' pa' pn pc').toArray)∧St w [] w' [.row 89 36 (.slice sa' sn sc') sn (C.snaps.flatMap snapC),.row 91 3 (.slice pa' pn pc') pn (C.packs.flatMap pkC)]:=by
 apply amphoraref16_Copy_vc
 obtain ⟨g1,w1,r1,k1⟩:=(St.start w).boxA (P:=Tryz.prog) 47 (catC C sa sn sc pa pn pc)
 obtain ⟨g2,w2,r2,k2⟩:=k1.zeroA caZ16
 obtain ⟨ga,w3,r3,k3⟩:=k2.litA0 snT
 have k3:St w [] w3 [.arr g1 47 (catC C sa sn sc pa pn pc),.arr g2 47 catZ,.row 89 36 (.slice (some ⟨ga,0,none⟩) 0 0) 0 []]:=k3
 obtain ⟨va,vc,w4,r4,k4,_,_⟩:=k3.append (i:=2) (ty:=25) snT rfl (h.snaps.keep0 k3.chg).rd (fun v hv=>by
   obtain ⟨s,_,hs⟩:=List.mem_flatMap.1 hv
   exact snapC_one s v hs) (by omega) (by simp only [maxLen];omega)
 rw [Nat.zero_add] at r4 k4
 obtain ⟨w5,r5,k5⟩:=k4.stL (i:=0) (o:=7) (off:=7) (T:=25) (v:=.slice va sn vc) rfl (ssS _) rfl (by simp [catC,setC]) rfl
 obtain ⟨gb,w6,r6,k6⟩:=k5.litA0 pqT
 have k6:St w [] w6 [.arr g1 47 (catC C va sn vc pa pn pc),.arr g2 47 catZ,.row 89 36 (.slice va sn vc) sn (C.snaps.flatMap snapC),.row 91 3 (.slice (some ⟨gb,0,none⟩) 0 0) 0 []]:=k6
 obtain ⟨ua,uc,w7,r7,k7,_,_⟩:=k6.append (i:=3) (ty:=45) pqT rfl (h.packs.keep0 k6.chg).rd (fun v hv=>by
   obtain ⟨s,_,hs⟩:=List.mem_flatMap.1 hv
   simp [pkC] at hs;rcases hs with rfl | rfl | rfl<;>rfl) (by omega) (by simp only [maxLen];omega)
 rw [Nat.zero_add] at r7 k7
 obtain ⟨w8,r8,k8⟩:=k7.stL (i:=0) (o:=8) (off:=8) (T:=45) (v:=.slice ua pn uc) rfl (psS _) rfl (by simp [catC,setC]) rfl
 have k8:St w [] w8 [.arr g1 47 (catC C va sn vc ua pn uc),.arr g2 47 catZ,.row 89 36 (.slice va sn vc) sn (C.snaps.flatMap snapC),.row 91 3 (.slice ua pn uc) pn (C.packs.flatMap pkC)]:=k8
 obtain ⟨w9,r9,k9⟩:=k8.stA (i:=1) (v:=catC C va sn vc ua pn uc) rfl (caS16 _) rfl rfl (catC_one _ _ _ _ _ _ _)
 have k9:St w [] w9 [.arr g1 47 (catC C va sn vc ua pn uc),.arr g2 47 (catC C va sn vc ua pn uc),.row 89 36 (.slice va sn vc) sn (C.snaps.flatMap snapC),.row 91 3 (.slice ua pn uc) pn (C.packs.flatMap pkC)]:=k9
 exact ⟨g1,w1,r1,g2,w2,r2,_,_,_,w3,r3,_,_,_,k3.ldL (i:=0) (o:=7) rfl (ssA _) rfl rfl,_,_,_,w4,r4,w5,r5,_,_,_,w6,r6,_,_,_,k6.ldL (i:=0) (o:=8) rfl (psA _) rfl rfl,_,_,_,w7,r7,w8,r8,_,k8.ldA (i:=0) (l:=catC C va sn vc ua pn uc) rfl (caA16 _) (caS16 _) rfl,w9,r9,_,k9.ldVarA (i:=1) rfl (caA16 _) (caS16 _) rfl,va,vc,ua,uc,rfl,k9.sub (by simp)⟩

end Go.Proofs.YtpmhjnhgpplmnaaGreatDoor
end

section
namespace Go.Proofs.YtpmhjnhgpplmnaaGreatDoor
open Go Sx
set_option maxRecDepth 8000

theorem byZ (w:World):(zeroValue 185).run Tryz.prog w=.ok (.slice none 0 0) w:=Tryz.zeroValue185 w
theorem byA (w:World):(isAgg 185).run Tryz.prog w=.ok false w:=Tryz.isAgg185 w
theorem byS (w:World):(sizeOf 185).run Tryz.prog w=.ok 1 w:=Tryz.sizeOf185 w
def VB (w0 w:World) (M:List Res) (g:Nat) (l:List UInt8):Prop:=∃a c,St w0 [] w (M++ [.arr g 185 [.slice a l.length c],.row 5 1 (.slice a l.length c) l.length (bv l)])
section
variable {w0 w w':World} {M:List Res} {g:Nat} {l:List UInt8}
theorem VB.same (h:VB w0 w M g l) (hc:Chg [] w w'):VB w0 w' M g l:=by obtain ⟨a,c,hS⟩:=h;exact ⟨a,c,hS.same hc⟩
theorem VB.chg (h:VB w0 w M g l):Chg [] w0 w:=by obtain ⟨a,c,hS⟩:=h;exact hS.chg
theorem VB.rest (h:VB w0 w M g l):St w0 [] w M:=by obtain ⟨a,c,hS⟩:=h;exact hS.sub (List.sublist_append_left _ _)
theorem VB.sub {N:List Res} (h:VB w0 w M g l) (hs:N.Sublist M):VB w0 w N g l:=by obtain ⟨a,c,hS⟩:=h;exact ⟨a,c,hS.sub (hs.append_right _)⟩
theorem VB.perm {a:Option Addr} {c:Nat} {r:Res} (h:St w0 [] w ((M++ [.arr g 185 [.slice a l.length c],.row 5 1 (.slice a l.length c) l.length (bv l)])++ [r])):VB w0 w (M++ [r]) g l:=by
 refine ⟨a,c,h.perm ?_⟩
 rw [List.append_assoc,List.append_assoc]
 exact List.Perm.append_left M (List.perm_append_comm (l₁:=[_,_]) (l₂:=[r]))
theorem VB.lits (h:VB w0 w M g l) (zs:List Int) (hn:zs.length≤1000):∃gl w1,(Instr.buildSlice 29 (iv zs).length (((iv zs).zipIdx 0).map fun p=>(p.2,p.1)).toArray).run Tryz.prog w=.ok (.slice (some ⟨gl,0,none⟩) (iv zs).length (iv zs).length) w1∧VB w0 w1 (M++ [.row 3 1 (.slice (some ⟨gl,0,none⟩) (iv zs).length (iv zs).length) (iv zs).length (iv zs)]) g l:=by
 obtain ⟨a,c,hS⟩:=h
 obtain ⟨gl,w1,r1,h1⟩:=hS.lit intT (iv zs) (iv_one zs) (by simp;omega)
 exact ⟨gl,w1,r1,VB.perm h1⟩
theorem VB.nums (h:VB w0 w M g l) (zs:List Int) (hn:zs.length≤1000) (hz:∀z∈zs,z≤9223372036854775807) (hb:l.length≤1000000000):∃gl w1,(Instr.buildSlice 29 (iv zs).length (((iv zs).zipIdx 0).map fun p=>(p.2,p.1)).toArray).run Tryz.prog w=.ok (.slice (some ⟨gl,0,none⟩) (iv zs).length (iv zs).length) w1∧
   Calls Tryz.prog 98 #[.pointer (some ⟨g,0,none⟩),.slice (some ⟨gl,0,none⟩) (iv zs).length (iv zs).length] w1 fun e w'=>e=.returned (.tuple #[])∧VB w0 w' M g (l++numsZ zs):=by
 obtain ⟨gl,w1,r1,a,c,hS⟩:=h.lits zs hn
 refine ⟨gl,w1,r1,(pnums_spec zs hz _ _ _ g a l.length c l hS (fun w' h=>h.rd (i:=M.length) List.getElem?_concat_length) (by omega)).mono ?_⟩
 rintro e w2 ⟨rfl,a',c',h2⟩
 have h3:VB w0 w2 (M++ [.row 3 1 (.slice (some ⟨gl,0,none⟩) (iv zs).length (iv zs).length) (iv zs).length (iv zs)]) g (l++numsZ zs):=⟨a',c',by rw [List.length_append];exact h2⟩
 exact ⟨rfl,h3.sub (List.sublist_append_left _ _)⟩
theorem VB.vars (h:VB w0 w M g l) (zs:List Int) (hn:zs.length≤1000) (hz:∀z∈zs,z≤9223372036854775807) (hb:l.length≤1000000000):∃gl w1,(Instr.buildSlice 29 (iv zs).length (((iv zs).zipIdx 0).map fun p=>(p.2,p.1)).toArray).run Tryz.prog w=.ok (.slice (some ⟨gl,0,none⟩) (iv zs).length (iv zs).length) w1∧
   Calls Tryz.prog 99 #[.pointer (some ⟨g,0,none⟩),.slice (some ⟨gl,0,none⟩) (iv zs).length (iv zs).length] w1 fun e w'=>e=.returned (.tuple #[])∧VB w0 w' M g (l++varsZ zs):=by
 obtain ⟨gl,w1,r1,a,c,hS⟩:=h.lits zs hn
 refine ⟨gl,w1,r1,(pvars_spec zs hz _ _ _ g a l.length c l hS (fun w' h=>h.rd (i:=M.length) List.getElem?_concat_length) (by omega)).mono ?_⟩
 rintro e w2 ⟨rfl,a',c',h2⟩
 have h3:VB w0 w2 (M++ [.row 3 1 (.slice (some ⟨gl,0,none⟩) (iv zs).length (iv zs).length) (iv zs).length (iv zs)]) g (l++varsZ zs):=⟨a',c',by rw [List.length_append];exact h2⟩
 exact ⟨rfl,h3.sub (List.sublist_append_left _ _)⟩
end

theorem Sx.St.rdSub {w0 w:World} {X:List Nat} {M:List Res} (h:St w0 X w M) {i g T o n:Nat} {l:List Value} {x:List UInt8} (hi:M[i]?=some (.arr g T l)) (hx:(l.drop o).take n=bv x) (hn:x.length=n):RdB w (some ⟨g,o,none⟩) n n x:=by
 refine ⟨.inr ⟨g,o,rfl,fun j v hj=>?_⟩,by simp [hn],Nat.le_refl _,by simp⟩
 rw [←hx,List.getElem?_take] at hj
 split at hj
 · rw [List.getElem?_drop] at hj
   have:=h.cellsA hi (o+j) v hj
   rwa [Nat.zero_add] at this
 · cases hj
theorem VB.app {w0 w:World} {M:List Res} {g:Nat} {l x:List UInt8} {va a:Option Addr} {vc n c:Nat} (hS:St w0 [] w (M++ [.arr g 185 [.slice va l.length vc],.row 5 1 (.slice va l.length vc) l.length (bv l)])) (hr:RdB w a n c x) (hb:l.length+n≤140737488355000):
   ∃va' vc' w1 w2,(Builtin.append_ #[185,26] 185 #[.slice va l.length vc,.slice a n c]).run Tryz.prog w=.ok (.slice va' (l.length+n) vc') w1∧St w0 [] w1 (M++ [.arr g 185 [.slice va l.length vc]])∧(Instr.storeAt 185 (.pointer (some ⟨g,0,none⟩)) (.slice va' (l.length+n) vc')).run Tryz.prog w1=.ok () w2∧VB w0 w2 M g (l++x):=by
 have hn:=hr.lenB
 have g0:∀(x y:Res),(M++ [x,y])[M.length]?=some x:=fun x y=>by rw [List.getElem?_append_right (Nat.le_refl _),Nat.sub_self];rfl
 have g1:∀(x y:Res),(M++ [x,y])[M.length+1]?=some y:=fun x y=>by rw [List.getElem?_append_right (by omega),Nat.add_sub_cancel_left];rfl
 obtain ⟨va',vc',w1,r1,h1⟩:=hS.appendB (i:=M.length+1) (g1 _ _) hr hb
 rw [List.set_append_right _ _ (by omega),Nat.add_sub_cancel_left] at h1
 have h1:St w0 [] w1 (M++ [.arr g 185 [.slice va l.length vc],.row 5 1 (.slice va' (l.length+n) vc') (l.length+n) (bv (l++x))]):=h1
 obtain ⟨w2,r2,h2⟩:=h1.stL (i:=M.length) (o:=0) (off:=0) (T:=185) (v:=.slice va' (l.length+n) vc') (g0 _ _) (byS _) rfl (by simp) rfl
 rw [List.set_append_right _ _ (Nat.le_refl _),Nat.sub_self] at h2
 refine ⟨va',vc',w1,w2,by rw [append_by];exact r1,h1.sub (List.Sublist.append_left (by simp) _),r2,va',vc',?_⟩
 rw [List.length_append,hn]
 exact h2
theorem two_get {M:List Res} {x y r:Res} :((M++ [x,y])++ [r])[M.length+2]?=some r:=by
 rw [List.getElem?_append_right (by simp),List.length_append];simp
theorem two_set {M:List Res} {x y r r':Res} :((M++ [x,y])++ [r]).set (M.length+2) r'=(M++ [x,y])++ [r']:=by
 rw [List.set_append_right _ _ (by simp),List.length_append];simp
theorem litCtx (w:World):∃g w1 w2,(Instr.buildSlice 26 7 #[(0,.int .u8 99),(1,.int .u8 97),(2,.int .u8 116),(3,.int .u8 97),(4,.int .u8 108),(5,.int .u8 111),(6,.int .u8 103)]).run Tryz.prog w=.ok (.slice (some ⟨g,0,none⟩) 7 7) w1∧(convert 26 26 (.slice (some ⟨g,0,none⟩) 7 7)).run Tryz.prog w1=.ok (.slice (some ⟨g,0,none⟩) 7 7) w2∧Chg [] w w2∧RdB w2 (some ⟨g,0,none⟩) 7 7 catK:=litMark catK (by decide) w
theorem pack1 (x:List UInt8):packL [x]=varL x.length++x:=by simp [packL]

set_option maxHeartbeats 4000000 in
theorem catEncode_spec (K:List UInt8) (hk:K.length=96) (C:CatD) (sa:Option Addr) (sn sc:Nat) (pa:Option Addr) (pn pc:Nat) (w:World) (hK:KTab w) (h:CatR w C sa sn sc pa pn pc) (ok:checkB C=true→CatOk C):
   Calls Tryz.prog 35 #[.agg (bv K).toArray,.agg (catC C sa sn sc pa pn pc).toArray] w fun e w'=>∃a n c,e=.returned (.tuple #[.slice a n c,errV (if checkB C then none else some 28)])∧FreshB w w' a n c (if checkB C then encC K C else []):=by
 obtain ⟨mI,hI⟩:=eI
 have hsn:=h.snaps.num (by decide)
 have hpn:=h.packs.num (by decide)
 apply catalog_Encode_vc
 obtain ⟨g2,w1,r1,k1⟩:=(St.start w).boxA (P:=Tryz.prog) 41 (bv K)
 obtain ⟨g3,w2,r2,k2⟩:=k1.boxA (P:=Tryz.prog) 47 (catC C sa sn sc pa pn pc)
 have k2:St w [] w2 [.arr g2 41 (bv K),.arr g3 47 (catC C sa sn sc pa pn pc)]:=k2
 refine ⟨g2,w1,r1,g3,w2,r2,_,k2.ldA (i:=1) (l:=catC C sa sn sc pa pn pc) rfl (caA16 _) (caS16 _) rfl,(catCheck_spec C sa sn sc pa pn pc w2 (h.keep0 k2.chg)).mono ?_⟩
 rintro e w3 ⟨rfl,c3⟩
 have k3:=k2.same c3
 cases hc:checkB C with
 | false=>exact ⟨_,rfl,_,neqS_nil hI (some 28) _ _,fun _=>⟨none,0,0,rfl,k3.chg,rfl,World.ownsRow_nil _ _ _ _⟩,fun h=>by simp at h⟩
 | true=>
   have ok:=ok hc
   have hsn64:sn≤64:=by have:=ok.sn;omega
   have hpn1k:pn≤1024:=by have:=ok.pn;omega
   obtain ⟨g7,w4,r4,k4⟩:=k3.zero byZ
   obtain ⟨M,hM⟩:∃M:List Res,M=[.arr g2 41 (bv K),.arr g3 47 (catC C sa sn sc pa pn pc)]:=⟨_,rfl⟩
   have v4:VB w w4 M g7 []:=⟨none,0,by rw [hM];exact k4.addNil 5 1⟩
   have M0:∀ {w'},St w [] w' M→St w [] w' [.arr g2 41 (bv K),.arr g3 47 (catC C sa sn sc pa pn pc)]:=fun h=>by rw [hM] at h;exact h
   have ldC:∀ {w'} (j:Nat) (T:TypeId) (v:Value),(isAgg T).run Tryz.prog w'=.ok false w'→(catC C sa sn sc pa pn pc)[j]?=some v→St w [] w' M→(Instr.loadAt T (.pointer (some ⟨g3,j,none⟩))).run Tryz.prog w'=.ok v w':=fun j T v hT hv h=>(M0 h).ldL (i:=1) (o:=j) rfl hT rfl hv
   have iA:∀w,(isAgg 3).run Tryz.prog w=.ok false w:=intA
   have uA:∀w,(isAgg 42).run Tryz.prog w=.ok false w:=fun w=>Tryz.isAgg42 w
   have hz3:∀z∈ [C.gen,C.next,polyZ C.set],z≤9223372036854775807:=fun z hz=>by
     simp only [List.mem_cons,List.not_mem_nil,or_false] at hz
     rcases hz with rfl | rfl | rfl
     · exact ok.gen.2
     · exact ok.next.2
     · exact (polyZ_rng _).2
   have n3:(numsZ [C.gen,C.next,polyZ C.set]).length=24:=by simp [numsZ,numZ_len]
   obtain ⟨gl,w5,r5,c5⟩:=v4.nums [C.gen,C.next,polyZ C.set] (by simp) hz3 (by simp)
   refine ⟨_,rfl,_,neqS_nil hI none _ _,fun h=>by simp at h,fun _=>⟨g7,w4,r4,_,ldC 0 _ _ (iA _) rfl v4.rest,_,ldC 1 _ _ (iA _) rfl v4.rest,_,ldC 2 _ _ (uA _) rfl v4.rest,_,_,_,w5,r5,c5.mono ?_⟩⟩
   rintro e w6 ⟨rfl,v6⟩
   rw [List.nil_append] at v6
   have hz5:∀z∈ [C.set.win,C.set.min,C.set.max,C.set.bits,(sn:Int)],z≤9223372036854775807:=fun z hz=>by
     simp only [List.mem_cons,List.not_mem_nil,or_false] at hz
     have:=ok.sn
     rcases hz with rfl | rfl | rfl | rfl | rfl
     · exact ok.set.1.2
     · exact ok.set.2.1.2
     · exact ok.set.2.2.1.2
     · exact ok.set.2.2.2.2
     · omega
   have n5:=varsZ_len hz5
   simp only [List.length_cons,List.length_nil] at n5
   obtain ⟨gl,w7,r7,c7⟩:=v6.vars [C.set.win,C.set.min,C.set.max,C.set.bits,(sn:Int)] (by simp) hz5 (by omega)
   refine ⟨rfl,_,ldC 3 _ _ (iA _) rfl v6.rest,_,ldC 4 _ _ (iA _) rfl v6.rest,_,ldC 5 _ _ (iA _) rfl v6.rest,_,ldC 6 _ _ (iA _) rfl v6.rest,_,_,_,ldC 7 _ _ (ssA _) rfl v6.rest,_,_,_,w7,r7,c7.mono ?_⟩
   rintro e w8 ⟨rfl,v8⟩
   obtain ⟨H,hH⟩:∃H,numsZ [C.gen,C.next,polyZ C.set]++varsZ [C.set.win,C.set.min,C.set.max,C.set.bits,(sn:Int)]=H:=⟨_,rfl⟩
   have hHl:H.length≤69:=by rw [←hH,List.length_append];omega
   rw [hH] at v8
   refine ⟨rfl,_,_,_,ldC 7 _ _ (ssA _) rfl v8.rest,fun x w'=>∃i:Nat,x=(i:Int)∧i≤sn∧VB w w' M g7 (H++(C.snaps.take i).flatMap snapB),fun x _=>sn-x.toNat,⟨0,rfl,by omega,by simpa using v8⟩,?_⟩
   rintro x w9 ⟨i,rfl,hi,v9⟩
   refine ⟨fun hlt=>?_,fun hge=>?_⟩
   · have hi':i<sn:=by simp at hlt;omega
     obtain ⟨s,hs⟩:∃s,C.snaps[i]?=some s:=⟨_,List.getElem?_eq_getElem (by omega)⟩
     have hsok:=ok.snaps s (List.mem_of_getElem? hs)
     obtain ⟨b,o,ha,q⟩:=h.snaps.ld (P:=Tryz.prog) (by decide) snA snS hs
     obtain ⟨P,hP⟩:∃P,H++(C.snaps.take i).flatMap snapB=P:=⟨_,rfl⟩
     have hPl:P.length≤10000:=by
       have:=flat_le (f:=snapB) (l:=C.snaps.take i) (k:=100) fun s hs=>snapB_len (ok.snaps s (List.mem_of_mem_take hs))
       have h64:=ok.sn
       rw [List.length_take,Nat.min_eq_left (by omega)] at this
       rw [←hP,List.length_append];omega
     rw [hP] at v9
     obtain ⟨va,vc,hS9⟩:=v9
     have c9:=hS9.chg
     obtain ⟨g9,w10,r10,h10⟩:=hS9.zeroA snZ
     obtain ⟨w11,r11,h11⟩:=h10.stA (i:=M.length+2) (v:=snapC s) two_get (snS _) (by simp) (snapC_len s) (snapC_one s)
     rw [two_set] at h11
     have v11:=(VB.perm h11).same (Chg.drew [] w11)
     obtain ⟨M',hM'⟩:∃M',M++ [.arr g9 89 (snapC s)]=M':=⟨_,rfl⟩
     have e9:M'[M.length]?=some (.arr g9 89 (snapC s)):=by rw [←hM'];exact List.getElem?_concat_length
     have Msub:M.Sublist M':=by rw [←hM'];exact List.sublist_append_left _ _
     rw [hM'] at v11
     clear va vc hS9 h10 h11
     obtain ⟨va,vc,hS⟩:=v11
     let S:World→Prop:=fun w'=>St w [] w' (M'++ [.arr g7 185 [.slice va P.length vc]])
     have toS:∀ {w' r},St w [] w' (M'++ [.arr g7 185 [.slice va P.length vc],r])→S w':=fun hw=>Sx.St.sub hw (List.Sublist.append_left (by simp) _)
     have e9':∀ {r},(M'++ [r])[M.length]?=some (.arr g9 89 (snapC s)):=fun {r} =>by rw [List.getElem?_append_left (by rw [←hM'];simp)];exact e9
     have hSd:=toS hS
     obtain ⟨gn,cn,w12,r12,c12,q12,_⟩:=toBytes ⟨s.name.toArray⟩ s.name rfl w11.drew
     obtain ⟨gp,w13,r13,c13,q13,_⟩:=litC bbT [.slice (some ⟨gn,0,none⟩) s.name.length cn] (by simp [Value.oneCell']) (by simp) w12
     refine ⟨b,o,ha,by omega,by omega,_,by rw [Int.toNat_natCast];exact q w9 (h.snaps.keep0 c9),g9,w10,r10,w11,r11,S,hSd,_,_,_,fun w' hw=>Sx.St.ldL hw (i:=M'.length) (o:=0) List.getElem?_concat_length (byA _) rfl rfl,_,fun w' hw=>Sx.St.ldL hw (i:=M.length) (o:=0) e9' (snStr _) rfl rfl,_,_,_,w12,r12,S,fun _ h=>h,Sx.St.same hSd c12,_,_,_,w13,r13,S,fun _ h=>h,Sx.St.same hSd (c12.trans c13),(pack_spec _ 1 1 _ [s.name] w13 q13 (row2_one (q12.keep0 c13)) (by simp;omega) (by simp)).mono ?_⟩
     rintro e w14 ⟨pa',pn',pc',rfl,f14⟩
     have h14:=hS.same ((c12.trans c13).trans f14.1)
     have hpl:pn'≤40:=by have:=f14.rdB.lenB;rw [pack1,varL_small (by omega)] at this;simp at this;omega
     obtain ⟨ua,uc,w15,w16,r15,h15,r16,v16⟩:=VB.app h14 f14.rdB (by omega)
     have hz1:∀z∈ [s.time],z≤9223372036854775807:=fun z hz=>by
       simp only [List.mem_cons,List.not_mem_nil,or_false] at hz
       rw [hz];exact hsok.2.1.2
     have hz2:∀z∈ [s.size,s.chunks],z≤9223372036854775807:=fun z hz=>by
       simp only [List.mem_cons,List.not_mem_nil,or_false] at hz
       rcases hz with rfl | rfl
       · exact hsok.2.2.1.2
       · exact hsok.2.2.2.2
     have l1:(packL [s.name]).length≤40:=by rw [pack1,varL_small (by omega)];simp;omega
     have l2:(numsZ [s.time]).length=8:=by simp [numsZ,numZ_len]
     have l3:=varsZ_len hz2
     simp only [List.length_cons,List.length_nil] at l3
     obtain ⟨gl,w17,r17,c17⟩:=v16.nums [s.time] (by simp) hz1 (by rw [List.length_append];omega)
     refine ⟨_,_,_,rfl,S,fun _ h=>h,toS h14,ua,_,uc,w15,r15,S,fun _ h=>h,h15,w16,r16,_,v16.rest.ldL (i:=M.length) (o:=1) e9 (intA _) rfl rfl,_,_,_,w17,r17,c17.mono ?_⟩
     rintro e w18 ⟨rfl,v18⟩
     obtain ⟨gl,w19,r19,c19⟩:=v18.vars [s.size,s.chunks] (by simp) hz2 (by rw [List.length_append,List.length_append];omega)
     refine ⟨rfl,_,v18.rest.ldL (i:=M.length) (o:=2) e9 (intA _) rfl rfl,_,v18.rest.ldL (i:=M.length) (o:=3) e9 (intA _) rfl rfl,_,_,_,w19,r19,c19.mono ?_⟩
     rintro e w20 ⟨rfl,v20⟩
     obtain ⟨Q,hQ⟩:∃Q,P++packL [s.name]++numsZ [s.time]++varsZ [s.size,s.chunks]=Q:=⟨_,rfl⟩
     have hQl:Q.length≤11000:=by rw [←hQ,List.length_append,List.length_append,List.length_append];omega
     rw [hQ] at v20
     obtain ⟨ya,yc,hY⟩:=v20.same (Chg.drew [] w20)
     have rdY:RdB w20.drew (some ⟨g9,4,none⟩) 32 32 s.root:=(hY.sub (List.sublist_append_left _ _)).rdSub (i:=M.length) (o:=4) (n:=32) e9 (by show List.take 32 (bv s.root)=_;rw [List.take_of_length_le (by simp [s.rl])]) s.rl
     obtain ⟨za,zc,w21,w22,r21,h21,r22,v22⟩:=VB.app hY rdY (by omega)
     refine ⟨rfl,fun w'=>St w [] w' (M'++ [.arr g7 185 [.slice ya Q.length yc]]),hY.sub (List.Sublist.append_left (by simp) _),by omega,by omega,_,_,_,fun w' hw=>Sx.St.ldL hw (i:=M'.length) (o:=0) List.getElem?_concat_length (byA _) rfl rfl,za,_,zc,w21,r21,_,fun _ h=>h,h21,w22,r22,⟨i+1,wrap_succ hi' (by omega),by omega,?_⟩,mu_succ hi' (by omega)⟩
     have e:H++(C.snaps.take (i+1)).flatMap snapB=Q++s.root:=by
       rw [←hQ,←hP,List.take_add_one,hs,List.flatMap_append]
       simp [snapB,pack1,numsZ,List.append_assoc]
     rw [e]
     exact v22.sub Msub
   · have hi':i=sn:=by simp at hge;omega
     rw [hi',←hsn,List.take_length] at v9
     obtain ⟨P,hP⟩:∃P,H++C.snaps.flatMap snapB=P:=⟨_,rfl⟩
     have hPl:P.length≤10000:=by
       have:=flat_le (f:=snapB) (l:=C.snaps) (k:=100) fun s hs=>snapB_len (ok.snaps s hs)
       have h64:=ok.sn
       rw [←hP,List.length_append];omega
     rw [hP] at v9
     have hpk:=ok.pn
     have hz1:∀z∈ [(pn:Int)],z≤9223372036854775807:=fun z hz=>by
       simp only [List.mem_cons,List.not_mem_nil,or_false] at hz
       omega
     have l1:=varsZ_len hz1
     simp only [List.length_cons,List.length_nil] at l1
     obtain ⟨gl,w23,r23,c23⟩:=v9.vars [(pn:Int)] (by simp) hz1 (by omega)
     refine ⟨_,_,_,ldC 8 _ _ (psA _) rfl v9.rest,_,_,_,w23,r23,c23.mono ?_⟩
     rintro e w24 ⟨rfl,v24⟩
     obtain ⟨Q,hQ⟩:∃Q,P++varsZ [(pn:Int)]=Q:=⟨_,rfl⟩
     have hQl:Q.length≤10010:=by rw [←hQ,List.length_append];omega
     rw [hQ] at v24
     refine ⟨rfl,_,_,_,ldC 8 _ _ (psA _) rfl v24.rest,fun x w'=>∃i:Nat,x=(i:Int)∧i≤pn∧VB w w' M g7 (Q++(C.packs.take i).flatMap pkB),fun x _=>pn-x.toNat,⟨0,rfl,by omega,by simpa using v24⟩,?_⟩
     rintro x w25 ⟨i,rfl,hi,v25⟩
     refine ⟨fun hlt=>?_,fun hge=>?_⟩
     · have hi':i<pn:=by simp at hlt;omega
       obtain ⟨p,hp⟩:∃p,C.packs[i]?=some p:=⟨_,List.getElem?_eq_getElem (by omega)⟩
       have hpok:=ok.packs p (List.mem_of_getElem? hp)
       obtain ⟨b,o,ha,q⟩:=h.packs.ld (P:=Tryz.prog) (by decide) pqA pqS hp
       have hTl:(Q++(C.packs.take i).flatMap pkB).length≤40000:=by
         have:=flat_le (f:=pkB) (l:=C.packs.take i) (k:=27) fun p hp=>pkB_len (ok.packs p (List.mem_of_mem_take hp))
         rw [List.length_take,Nat.min_eq_left (by omega)] at this
         rw [List.length_append];omega
       have c25:=v25.chg
       obtain ⟨va,vc,hS9⟩:=v25
       obtain ⟨g11,w26,r26,h26⟩:=hS9.zeroA pqZ
       obtain ⟨w27,r27,h27⟩:=h26.stA (i:=M.length+2) (v:=pkC p) two_get (pqS _) (by simp) rfl (by simp [pkC,Value.oneCell'])
       rw [two_set] at h27
       have v27:=VB.perm h27
       have ldP:∀(j:Nat) (v:Value),(pkC p)[j]?=some v→(Instr.loadAt 3 (.pointer (some ⟨g11,j,none⟩))).run Tryz.prog w27=.ok v w27:=fun j v hv=>v27.rest.ldL (i:=M.length) (o:=j) List.getElem?_concat_length (intA _) rfl hv
       have hz3:∀z∈ [p.num,p.size,p.count],z≤9223372036854775807:=fun z hz=>by
         simp only [List.mem_cons,List.not_mem_nil,or_false] at hz
         rcases hz with rfl | rfl | rfl
         · exact hpok.1.2
         · exact hpok.2.1.2
         · exact hpok.2.2.2
       obtain ⟨gl,w28,r28,c28⟩:=v27.vars [p.num,p.size,p.count] (by simp) hz3 (by omega)
       refine ⟨b,o,ha,by omega,by omega,_,by rw [Int.toNat_natCast];exact q w25 (h.packs.keep0 c25),g11,w26,r26,w27,r27,_,ldP 0 _ rfl,_,ldP 1 _ rfl,_,ldP 2 _ rfl,_,_,_,w28,r28,c28.mono ?_⟩
       rintro e w29 ⟨rfl,v29⟩
       refine ⟨rfl,⟨i+1,wrap_succ hi' (by omega),by omega,?_⟩,mu_succ hi' (by omega)⟩
       have e:Q++(C.packs.take (i+1)).flatMap pkB=Q++(C.packs.take i).flatMap pkB++varsZ [p.num,p.size,p.count]:=by
         rw [List.take_add_one,hp,List.flatMap_append]
         simp [pkB,List.append_assoc]
       rw [e]
       exact v29.sub (List.sublist_append_left _ _)
     · have hi':i=pn:=by simp at hge;omega
       rw [hi',←hpn,List.take_length] at v25
       have hall:Q++C.packs.flatMap pkB=plainB C:=by
         rw [←hQ,←hP,←hH,plainB,hsn,hpn]
         simp [List.append_assoc]
       rw [hall] at v25
       have hpl:=plain_len ok
       obtain ⟨gc,w30,w31,r30,r31,c31,q31⟩:=litCtx w25
       obtain ⟨va,vc,hS⟩:=v25
       have hS31:=hS.same c31
       have hrow:RdB w31 va (plainB C).length vc (plainB C):=hS31.rd (i:=M.length+1) (by rw [List.getElem?_append_right (by omega),Nat.add_sub_cancel_left];rfl)
       refine ⟨_,(M0 (hS.sub (List.sublist_append_left _ _))).ldA (i:=0) (l:=bv K) rfl (kyA' _) (kyS' _) (by simp [hk]),_,_,_,w30,r30,_,_,_,w31,r31,_,_,_,hS31.ldL (i:=M.length) (o:=0) (by rw [List.getElem?_append_right (Nat.le_refl _),Nat.sub_self];rfl) (byA _) rfl rfl,(seal_spec K 4 _ 7 7 catK _ _ _ (plainB C) w31 hk (hK.keep0 hS31.chg) q31 hrow (by omega)).mono ?_⟩
       rintro e w32 ⟨ra,rn,rc,rfl,f32⟩
       exact ⟨ra,rn,rc,rfl,ra,rn,rc,rfl,f32.after hS31.chg⟩

end Go.Proofs.YtpmhjnhgpplmnaaGreatDoor
end
