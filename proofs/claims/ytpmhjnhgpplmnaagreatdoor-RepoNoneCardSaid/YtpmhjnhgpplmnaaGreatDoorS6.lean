/- The proof of RepoNoneCardSaid, part 6: what it rests on (conditions: those that each theorem names). -/
import Derived.Test.YtpmhjnhgpplmnaaGreatDoorS5
import Derived.Test.YtpmhjnhgpplmnaaGreatDoorRows
import Derived.Laws.Externs
import Derived.Lib.BytesEntry
import Derived.Sort.Grow
import Derived.Sort.Row
import Derived.Deep.Draws
import Derived.Shelf.SlGeneric
import Derived.Shelf.SlSortCmp.WholeK
import Derived.Ground.SlsfProg
import Derived.Test.YtpmhjnhgpplmnaaGreatDoorProg
import Derived.Shelf.SlSortCmp.NoneTotal
section
namespace Go.Proofs.YtpmhjnhgpplmnaaGreatDoor
open Go Sx
set_option maxRecDepth 8000

def pV (g:Nat):Value:=.pointer (some ⟨g,0,none⟩)
def gR (f:Nat) (pre cb:List Value):Value:=.func (.func f) pre.toArray cb.toArray
theorem Ib (g3 g4 gd:Nat) (w:World):(Instr.build 355 #[(0,gR 262 [] [pV g3,pV g4]),(1,gR 84 [pV gd] [])]).run Tryz.prog w=.ok (.agg #[gR 262 [] [pV g3,pV g4],gR 84 [pV gd] []]) w:=by kernel_rfl
theorem L0 (a b:Value) (w:World):(Instr.index 355 (.agg #[a,b]) (.int .i64 0)).run Tryz.prog w=.ok a w:=by kernel_rfl
theorem Lw (a b:Value) (w:World):(Instr.index 355 (.agg #[a,b]) (.int .i64 1)).run Tryz.prog w=.ok b w:=by kernel_rfl
theorem Ia (g3 g7 gd g10:Nat) (w:World):(Instr.build 279 #[(0,gR 186 [] [pV g3]),(1,gR 187 [] [pV g3,pV g7]),(2,gR 188 [] [pV g3]),(3,gR 84 [pV gd] []),(4,gR 189 [] [pV g3,pV g10])]).run Tryz.prog w=
   .ok (.agg #[gR 186 [] [pV g3],gR 187 [] [pV g3,pV g7],gR 188 [] [pV g3],gR 84 [pV gd] [],gR 189 [] [pV g3,pV g10]]) w:=by kernel_rfl
theorem M8 (a b c d e:Value) (w:World):(Instr.index 279 (.agg #[a,b,c,d,e]) (.int .i64 0)).run Tryz.prog w=.ok a w∧(Instr.index 279 (.agg #[a,b,c,d,e]) (.int .i64 1)).run Tryz.prog w=.ok b w∧(Instr.index 279 (.agg #[a,b,c,d,e]) (.int .i64 2)).run Tryz.prog w=.ok c w∧
   (Instr.index 279 (.agg #[a,b,c,d,e]) (.int .i64 3)).run Tryz.prog w=.ok d w∧(Instr.index 279 (.agg #[a,b,c,d,e]) (.int .i64 4)).run Tryz.prog w=.ok e w:=⟨by kernel_rfl,by kernel_rfl,by kernel_rfl,by kernel_rfl,by kernel_rfl⟩
theorem pdA (w:World):(isAgg 51).run Tryz.prog w=.ok false w:=Tryz.isAgg51 w

section
variable {w0 w w':World} {X:List Nat} {N T:List Res} {gd:Nat} {ps:List Nat} {m:af}
theorem ah.top (h:ah w0 X w gd ps m (N++T)):St w0 X w T:=h.rest.sub (List.sublist_append_right _ _)
theorem ah.cut (h:ah w0 X w gd ps m (N++T)):ah w0 X w gd ps m N:=h.wC (List.sublist_append_left _ _)

def B63 (k:Nat) (m:af):Prop:=m.steps+k≤4611686018427387000∧m.chs.length+k≤999999000
theorem B63.of {j k:Nat} {m m':af} (h:B63 (j+k) m) (hc:Cnt j m m'):B63 k m':=⟨by have:=h.1;have:=hc.1;omega,by have:=h.2;have:=hc.2;omega⟩
theorem B63.s {k:Nat} (h:B63 k m):m.steps<4611686018427387904:=by have:=h.1;omega
theorem B63.c {k:Nat} (h:B63 k m):m.chs.length<1000000000:=by have:=h.2;omega

theorem ldQ {T:List Res} {i g:Nat} {ty:TypeId} {v:Value} (h:St w0 X w T) (hi:T[i]?=some (.arr g ty [v])) (ha:(isAgg ty).run Tryz.prog w=.ok false w):(Instr.loadAt ty (pV g)).run Tryz.prog w=.ok v w:=h.ldL (i:=i) (o:=0) hi ha rfl rfl

theorem HZ (n:Nm) (e0:Int) (h:ah w0 X w gd ps m N) (hb:B63 2 m):
   Calls Tryz.prog 191 #[pV gd,aJ n,bk (some e0)] w fun e w'=>e=.returned (bk (kQ n e0 m).2)∧∃ps',ah w0 X w' gd ps' (kQ n e0 m).1 N:=by
 obtain ⟨mI,hI⟩:=eI
 apply wz
 obtain ⟨g3,w1,r1,k1⟩:=(St.start w).box (P:=Tryz.prog) 51 (pV gd)
 obtain ⟨g4,w2,r2,k2⟩:=k1.box (P:=Tryz.prog) 9 (aJ n)
 have k2:St w [] w2 [.arr g3 51 [pV gd],.arr g4 9 [aJ n]]:=k2
 have h2:=h.dh k2
 refine ⟨g3,w1,r1,g4,w2,r2,gR 262 [] [pV g3,pV g4],w2,rfl,_,_,ldQ (i:=0) k2 rfl (pdA _),gR 84 [pV gd] [],w2,rfl,_,Ib g3 g4 gd w2,fun x w'=>(x=0∧∃ps',ah w0 X w' gd ps' m (N++ [.arr g3 51 [pV gd],.arr g4 9 [aJ n]]))∨(x=1∧(aL m n).2=none∧∃ps',ah w0 X w' gd ps' (aL m n).1 (N++ [.arr g3 51 [pV gd],.arr g4 9 [aJ n]]))∨(x=2∧kQ n e0 m=((aK (aL m n).1).1,some e0)∧∃ps',ah w0 X w' gd ps' (aK (aL m n).1).1 (N++ [.arr g3 51 [pV gd],.arr g4 9 [aJ n]])),fun x _=>(2-x).toNat,.inl ⟨rfl,ps,h2⟩,?_⟩
 rintro x w5 hx
 have hu1:∀y,(aL m n).2=some y→kQ n e0 m=((aL m n).1,some (As y)):=fun y hy=>by unfold kQ;rw [hy]
 have hu2:∀y,(aL m n).2=none→(aK (aL m n).1).2=some y→kQ n e0 m=((aK (aL m n).1).1,some (As y)):=fun y hn hy=>by unfold kQ;rw [hn];simp only;rw [hy]
 have hu3:(aL m n).2=none→(aK (aL m n).1).2=none→kQ n e0 m=((aK (aL m n).1).1,some e0):=fun hn hy=>by unfold kQ;rw [hn];simp only;rw [hy]
 refine ⟨fun hlt=>?_,fun hge=>?_⟩
 · rcases hx with ⟨rfl,ps',h5⟩ | ⟨rfl,hrm,ps',h5⟩ | ⟨rfl,_⟩
   · refine ⟨_,L0 _ _ w5,262,[],[pV g3,pV g4],rfl,by kernel_rfl,?_⟩
     show Calls _ _ #[pV g3,pV g4] _ _
     apply tB
     refine ⟨_,_,ldQ (i:=0) h5.top rfl (pdA _),_,ldQ (i:=1) h5.top rfl (DD _),(lC n h5 hb.s hb.c).mono ?_⟩
     rintro e w6 ⟨rfl,h6⟩
     refine ⟨_,rfl,_,rfl,(kA (aL m n).2 1 w6).mono ?_⟩
     rintro e w7 ⟨rfl,rfl⟩
     refine ⟨_,rfl,fun h=>?_,fun h=>⟨_,au hI _ _ _,fun h2=>?_,fun h2=>⟨.inr (.inl ⟨rfl,by simpa using h2,ps',h6⟩),by show (2-IntKind.wrap .i64 (0+1)).toNat<((2:Int)-0).toNat;decide⟩⟩⟩
     · have h:(aL m n).2=some 1:=by simpa using h
       rw [hu1 1 h,h]
       exact ⟨rfl,ps',h6.cut⟩
     · obtain ⟨y,hy⟩:=Option.isSome_iff_exists.1 h2
       have hne:¬y=1:=by rw [hy] at h;simpa using h
       rw [hu1 y hy,As,if_neg hne]
       exact ⟨rfl,ps',h6.cut⟩
   · have hb2:B63 1 (aL m n).1:=hb.of (j:=1) (rW m n)
     refine ⟨_,Lw _ _ w5,84,[pV gd],[],rfl,by kernel_rfl,?_⟩
     show Calls _ _ #[pV gd] _ _
     refine (mJ h5 hb2.s).mono ?_
     rintro e w6 ⟨rfl,h6⟩
     refine ⟨_,rfl,(kA (aK (aL m n).1).2 1 w6).mono ?_⟩
     rintro e w7 ⟨rfl,rfl⟩
     refine ⟨_,rfl,fun h=>?_,fun h=>⟨_,au hI _ _ _,fun h2=>?_,fun h2=>⟨.inr (.inr ⟨rfl,hu3 hrm (by simpa using h2),ps',h6⟩),by show (2-IntKind.wrap .i64 (1+1)).toNat<((2:Int)-1).toNat;decide⟩⟩⟩
     · have h:(aK (aL m n).1).2=some 1:=by simpa using h
       rw [hu2 1 hrm h,h]
       exact ⟨rfl,ps',h6.cut⟩
     · obtain ⟨y,hy⟩:=Option.isSome_iff_exists.1 h2
       have hne:¬y=1:=by rw [hy] at h;simpa using h
       rw [hu2 y hrm hy,As,if_neg hne]
       exact ⟨rfl,ps',h6.cut⟩
   · simp at hlt
 · rcases hx with ⟨rfl,_⟩ | ⟨rfl,_⟩ | ⟨rfl,hu,ps',h5⟩
   · simp at hge
   · simp at hge
   · rw [hu]
     exact ⟨rfl,ps',h5.cut⟩

theorem DL {C:bR} (h:aH C=true):Ap C.gen=true:=by
 simp only [aH,jL,Bool.and_eq_true,decide_eq_true_eq] at h
 rw [jU]
 exact ⟨h.1.1.1,h.1.1.2.1⟩

set_option maxHeartbeats 4000000 in
theorem vF (K:List UInt8) (hk:K.length=96) (C:bR) (sa:Option Addr) (sn sc:Nat) (pa:Option Addr) (pn pc:Nat) (h:ah w0 [] w gd ps m N) (hK:cR w0) (hT:jr w0) (hr:Bo w C sa sn sc pa pn pc) (ok:aH C=true→gE C) (hb:B63 20 m):
   Calls Tryz.prog 92 #[pV gd,.agg (bv K).toArray,.agg (bV C sa sn sc pa pn pc).toArray] w fun e w'=>e=.returned (bk (aW K C m).2)∧∃ps',ah w0 [] w' gd ps' (aW K C m).1 N:=by
 obtain ⟨mI,hI⟩:=eI
 apply sP
 obtain ⟨g3,w1,r1,k1⟩:=(St.start w).box (P:=Tryz.prog) 51 (pV gd)
 obtain ⟨g4,w2,r2,k2⟩:=k1.b7 (P:=Tryz.prog) 41 (bv K)
 obtain ⟨g5,w3,r3,k3⟩:=k2.b7 (P:=Tryz.prog) 47 (bV C sa sn sc pa pn pc)
 have k3:St w [] w3 [.arr g3 51 [pV gd],.arr g4 41 (bv K),.arr g5 47 (bV C sa sn sc pa pn pc)]:=k3
 refine ⟨g3,w1,r1,g4,w2,r2,g5,w3,r3,_,k3.ldA (i:=1) (l:=bv K) rfl (tV _) (qF _) (by simp [hk]),_,k3.ldA (i:=2) (l:=bV C sa sn sc pa pn pc) rfl (jM _) (fI _) rfl,(xS K hk C sa sn sc pa pn pc w3 (hK.an (h.chg.trans k3.chg)) (hr.an k3.chg) ok).mono ?_⟩
 rintro e w4 ⟨ea,en,ec,rfl,f4⟩
 have k4:=f4.add k3
 obtain ⟨g7,w5,r5,k5⟩:=k4.zero (z:=.slice none 0 0) (fun w=>Tryz.zeroValue26 w)
 have k5:St w [] w5 [.arr g3 51 [pV gd],.arr g4 41 (bv K),.arr g5 47 (bV C sa sn sc pa pn pc),.row 5 1 (.slice ea en ec) en (bv (if aH C then jI K C else [])),.arr g7 26 [.slice none 0 0]]:=k5
 obtain ⟨w6,r6,k6⟩:=k5.stL (i:=4) (o:=0) (off:=0) (T:=26) (v:=.slice ea en ec) rfl (bsS _) rfl (by simp) rfl
 have h6:=h.dh k6
 refine ⟨_,_,_,_,rfl,g7,w5,r5,w6,r6,_,au hI _ _ _,fun hbad=>?_,fun hgood=>?_⟩
 · have hc:aH C=false:=by
     cases hc:aH C with
     | false=>rfl
     | true=>rw [hc] at hbad;simp at hbad
   have e1:aW K C m=(m,some 28):=by unfold aW;rw [hc];rfl
   rw [e1,hc]
   exact ⟨rfl,ps,h6.cut⟩
 have hc:aH C=true:=by
   cases hc:aH C with
   | true=>rfl
   | false=>rw [hc] at hgood;simp at hgood
 rw [hc] at h6
 obtain ⟨b,hbb⟩:∃b,jI K C=b:=⟨_,rfl⟩
 obtain ⟨nm,hnm⟩:∃nm,aV 99 C.gen=nm:=⟨_,rfl⟩
 have e1:aW K C m=aP (bf tN m) (wv b nm 5):=by unfold aW;rw [hc,hbb,hnm];rfl
 obtain ⟨T1,hT1⟩:∃T1:List Res,[.arr g3 51 [pV gd],.arr g4 41 (bv K),.arr g5 47 (bV C sa sn sc pa pn pc),.row 5 1 (.slice ea en ec) en (bv b),.arr g7 26 [.slice ea en ec]]=T1:=⟨_,rfl⟩
 have h6:ah w0 [] w6 gd ps m (N++T1):=by rw [←hT1,←hbb];exact h6
 have ld3:∀ {w':World} {T},St w0 [] w' (T1++T)→(Instr.loadAt 51 (pV g3)).run Tryz.prog w'=.ok (pV gd) w':=fun h=>ldQ (i:=0) h (by rw [←hT1];rfl) (pdA _)
 have ld3':∀ {w':World},St w0 [] w' T1→(Instr.loadAt 51 (pV g3)).run Tryz.prog w'=.ok (pV gd) w':=fun h=>ld3 (T:=[]) (by rw [List.append_nil];exact h)
 refine ⟨_,_,ld3' h6.top,(mz h6).mono ?_⟩
 rintro e w7 ⟨la,lc,rfl,k7⟩
 have h7:=h6.dh k7
 have hnl:(cw m).length≤4096:=by have:=h.wf.dZ.len;simpa [cw] using this
 refine ⟨_,_,_,rfl,(pq la _ lc (cw m) tN w7 (h7.top.rd (i:=0) rfl) (by omega)).mono ?_⟩
 rintro e w8 ⟨rfl,rfl⟩
 have h7:=h7.cut
 refine ⟨_,rfl,fun w'=>(bf tN m).2=none∧∃ps',ah w0 [] w' gd ps' (bf tN m).1 (N++T1),⟨fun hin=>?_,fun hout=>?_⟩,?_⟩
 · have hin:vk m tN=true:=hin
   have ea:bf tN m=aL m tN:=by unfold bf;rw [hin];rfl
   refine ⟨_,_,ld3' h7.top,(lC tN h7 hb.s hb.c).mono ?_⟩
   rintro e w9 ⟨rfl,h9⟩
   refine ⟨_,rfl,_,au hI _ _ _,fun hbad=>?_,fun hok=>⟨by rw [ea];simpa using hok,ps,by rw [ea];exact h9⟩⟩
   obtain ⟨y,hy⟩:=Option.isSome_iff_exists.1 hbad
   have e2:aW K C m=((aL m tN).1,some y):=by rw [e1,aP,ea,hy]
   rw [e2,hy]
   exact ⟨rfl,ps,h9.cut⟩
 · have hout:vk m tN=false:=hout
   have ea:bf tN m=(m,none):=by unfold bf;rw [hout];rfl
   exact ⟨by rw [ea],ps,by rw [ea];exact h7⟩
 rintro w10 ⟨ha,ps1,h10⟩
 obtain ⟨m1,hm1⟩:∃m1,(bf tN m).1=m1:=⟨_,rfl⟩
 have hb1:B63 19 m1:=by rw [←hm1];exact hb.of (j:=1) (lR tN m)
 rw [hm1] at h10
 have e2:aW K C m=wv b nm 5 m1:=by rw [e1,aP,ha,hm1]
 have hgg:=DL hc
 have hgr:=jU.1 hgg
 have hname:=mD C.gen (by omega) w10 (hT.an h10.chg)
 rw [hgg,if_pos rfl,hnm] at hname
 refine ⟨_,h10.top.ldL (i:=2) (o:=0) (l:=bV C sa sn sc pa pn pc) (by rw [←hT1];rfl) (jQ _) rfl rfl,hname.mono ?_⟩
 rintro e w11 ⟨rfl,c11⟩
 obtain ⟨g10,w12,r12,k12⟩:=(St.start w11).zero (P:=Tryz.prog) (T:=9) (z:=.string ByteArray.empty) (fun w=>Tryz.zeroValue9 w)
 have k12:St w11 [] w12 [.arr g10 9 [.string ByteArray.empty]]:=k12
 obtain ⟨w13,r13,k13⟩:=k12.stL (i:=0) (o:=0) (off:=0) (T:=9) (v:=aJ nm) rfl (Pq _) rfl (by simp) rfl
 have h13:=(h10.same c11).dh k13
 obtain ⟨T2,hT2⟩:∃T2,T1++ [.arr g10 9 [aJ nm]]=T2:=⟨_,rfl⟩
 have h13:ah w0 [] w13 gd ps1 m1 (N++T2):=by rw [←hT2,←List.append_assoc];exact h13
 have ldP:∀ {w':World},St w0 [] w' T2→(Instr.loadAt 51 (pV g3)).run Tryz.prog w'=.ok (pV gd) w':=fun h=>by rw [←hT2] at h;exact ld3 h
 have ldN:∀ {w':World},St w0 [] w' T2→(Instr.loadAt 9 (pV g10)).run Tryz.prog w'=.ok (aJ nm) w':=fun h=>ldQ (i:=5) h (by rw [←hT2,←hT1];rfl) (DD _)
 have key:∀(i:Nat) (_:i<5) {w':World} {ps':List Nat} {m':af},ah w0 [] w' gd ps' m' (N++T2)→B63 5 m'→∃v,(Instr.index 279 (.agg #[gR 186 [] [pV g3],gR 187 [] [pV g3,pV g7],gR 188 [] [pV g3],gR 84 [pV gd] [],gR 189 [] [pV g3,pV g10]]) (.int .i64 (i:Int))).run Tryz.prog w'=.ok v w'∧
     ∃(f:Nat) (pre cb:List Value),v=.func (.func f) ⟨pre⟩ ⟨cb⟩∧gN Tryz.prog f=true∧Calls Tryz.prog f (pre++([]:List Value)++cb).toArray w' fun e w''=>e=.returned (bk (vr b nm i m').2)∧∃ps'',ah w0 [] w'' gd ps'' (vr b nm i m').1 (N++T2):=fun i hi {w' ps' m'} hd hbm=>by
   obtain ⟨i0,i1,i2,i3,i4⟩:=M8 (gR 186 [] [pV g3]) (gR 187 [] [pV g3,pV g7]) (gR 188 [] [pV g3]) (gR 84 [pV gd] []) (gR 189 [] [pV g3,pV g10]) w'
   have hcase:i=0∨i=1∨i=2∨i=3∨i=4:=by omega
   rcases hcase with rfl | rfl | rfl | rfl | rfl
   · refine ⟨_,i0,186,[],[pV g3],rfl,by kernel_rfl,?_⟩
     show Calls _ _ #[pV g3] _ _
     apply qv
     refine ⟨_,_,ldP hd.top,(oV tN hd hbm.s hbm.c).mono ?_⟩
     rintro e w'' ⟨rfl,ps'',hd2⟩
     exact ⟨_,rfl,rfl,ps'',hd2⟩
   · refine ⟨_,i1,187,[],[pV g3,pV g7],rfl,by kernel_rfl,?_⟩
     show Calls _ _ #[pV g3,pV g7] _ _
     apply qw
     obtain ⟨gl,w2',r2',k2'⟩:=(St.start w').lit bbT [.slice ea en ec] (by simp [Value.oneCell']) (by simp)
     refine ⟨_,_,ldP hd.top,_,_,_,ldQ (i:=4) hd.top (by rw [←hT2,←hT1];rfl) (bsA _),_,_,_,w2',r2',(oA tN _ 1 1 [.slice ea en ec] [b] (hd.dh k2') (fun {w3 ps3 m3} h3=>⟨h3.top.rd (i:=0) rfl,dU (ah.top (h3.cut) |>.rd (i:=3) (by rw [←hT2,←hT1];rfl))⟩) hbm.s (by decide)).mono ?_⟩
     rintro e w'' ⟨rfl,hd2⟩
     exact ⟨_,rfl,rfl,_,hd2.cut⟩
   · refine ⟨_,i2,188,[],[pV g3],rfl,by kernel_rfl,?_⟩
     show Calls _ _ #[pV g3] _ _
     apply pZ
     refine ⟨_,_,ldP hd.top,(uw tN hd hbm.s).mono ?_⟩
     rintro e w'' ⟨rfl,hd2⟩
     exact ⟨_,rfl,rfl,_,hd2⟩
   · refine ⟨_,i3,84,[pV gd],[],rfl,by kernel_rfl,?_⟩
     show Calls _ _ #[pV gd] _ _
     refine (mJ hd hbm.s).mono ?_
     rintro e w'' ⟨rfl,hd2⟩
     exact ⟨rfl,_,hd2⟩
   · refine ⟨_,i4,189,[],[pV g3,pV g10],rfl,by kernel_rfl,?_⟩
     show Calls _ _ #[pV g3,pV g10] _ _
     apply p9
     refine ⟨_,_,ldP hd.top,_,ldN hd.top,(CL tN nm hd hbm.s hbm.c).mono ?_⟩
     rintro e w'' ⟨rfl,hd2⟩
     exact ⟨_,rfl,rfl,_,hd2⟩
 refine ⟨_,rfl,g10,w12,r12,w13,r13,gR 186 [] [pV g3],w13,rfl,gR 187 [] [pV g3,pV g7],w13,rfl,gR 188 [] [pV g3],w13,rfl,_,_,ldP h13.top,gR 84 [pV gd] [],w13,rfl,gR 189 [] [pV g3,pV g10],w13,rfl,_,Ia g3 g7 gd g10 w13,fun x w'=>∃k:Nat,k≤5∧x=((5-k:Nat):Int)∧∃ps' m',ah w0 [] w' gd ps' m' (N++T2)∧wv b nm 5 m1=wv b nm k m'∧Cnt (5-k) m1 m',fun x _=>(5-x).toNat,⟨5,by omega,rfl,ps1,m1,h13,rfl,Cnt.refl _⟩,?_⟩
 rintro x w19 ⟨k,hk5,rfl,ps2,m2,h19,hrun,hcnt⟩
 have hb2:B63 14 m2:=(show B63 (5-k+14) m1 from ⟨by have:=hb1.1;omega,by have:=hb1.2;omega⟩).of hcnt
 refine ⟨fun hlt=>?_,fun hge=>?_⟩
 · obtain ⟨j,rfl⟩:∃j,k=j+1:=⟨k-1,by simp at hlt;omega⟩
   obtain ⟨v,hv,f,pre,cb,hfv,hgi,hcall⟩:=key (5- (j+1)) (by omega) h19 (⟨by have:=hb2.1;omega,by have:=hb2.2;omega⟩)
   refine ⟨v,hv,f,pre,cb,hfv,hgi,hcall.mono ?_⟩
   rintro e w20 ⟨rfl,ps3,h20⟩
   have ej:5- (j+1)=4-j:=by omega
   rw [ej] at h20
   have hstep:wv b nm 5 m1=aP (vr b nm (4-j) m2) (wv b nm j):=by rw [hrun,wv]
   refine ⟨_,rfl,_,au hI _ _ _,fun hbad=>?_,fun hok=>?_⟩
   · rw [ej] at hbad ⊢
     obtain ⟨y,hy⟩:=Option.isSome_iff_exists.1 hbad
     have e3:aW K C m=((vr b nm (4-j) m2).1,some y):=by rw [e2,hstep,aP,hy]
     rw [e3,hy]
     exact ⟨rfl,ps3,h20.cut⟩
   · rw [ej] at hok
     have hok:(vr b nm (4-j) m2).2=none:=by simpa using hok
     refine ⟨⟨j,by omega,?_,ps3,_,h20,by rw [hstep,aP,hok],?_⟩,?_⟩
     · rw [wrap_i64 (n:=((5- (j+1):Nat):Int)+1) (by omega) (by omega)];omega
     · exact (hcnt.trans (Ar b nm (4-j) m2)).mono (by omega)
     · show (5-IntKind.wrap .i64 (((5- (j+1):Nat):Int)+1)).toNat<(5- ((5- (j+1):Nat):Int)).toNat
       rw [wrap_i64 (n:=((5- (j+1):Nat):Int)+1) (by omega) (by omega)];omega
 · obtain rfl:k=0:=by simp at hge;omega
   have e3:aW K C m=C2 nm m2:=by rw [e2,hrun,wv]
   refine ⟨_,_,ldP h19.top,(mJ h19 hb2.s).mono ?_⟩
   rintro e w21 ⟨rfl,h21⟩
   obtain ⟨m3,hm3⟩:∃m3,(aK m2).1=m3:=⟨_,rfl⟩
   have hb3:B63 13 m3:=by rw [←hm3];exact hb2.of (j:=1) (kX m2)
   rw [hm3] at h21
   obtain ⟨o,ho⟩:∃o,(aK m2).2=o:=⟨_,rfl⟩
   have e4:aW K C m=(match (aK m2).2 with
     | none=>(m3,none)
     | some e=>if e=1 then (m3,some 1) else kQ nm e m3):=by
     rw [e3,C2,hm3]
     all_goals (cases (aK m2).2<;>rfl)
   rw [ho] at e4 ⊢
   refine ⟨_,rfl,fun t w'=>t=(decide (o=none)||decide (o=some 1))∧w'=w21,⟨_,kg hI _ _ _,fun hn=>⟨?_,rfl⟩,fun hn=>(kA o 1 w21).mono ?_⟩,?_⟩
   · have:o=none:=by simpa using hn
     simp [this]
   · rintro e w22 ⟨rfl,rfl⟩
     have:¬o=none:=by rintro rfl;simp at hn
     exact ⟨_,rfl,by simp [this],rfl⟩
   rintro t w23 ⟨rfl,rfl⟩
   refine ⟨fun hyes=>?_,fun hno=>?_⟩
   · have hz:(o=none∨o=some 1):=by simpa using hyes
     rcases hz with rfl | rfl
     · rw [e4];exact ⟨rfl,ps2,h21.cut⟩
     · rw [e4];exact ⟨rfl,ps2,h21.cut⟩
   · have hz:¬o=none∧¬o=some 1:=by simpa using hno
     obtain ⟨y,rfl⟩:∃y,o=some y:=by
       cases o with
       | none=>exact absurd rfl hz.1
       | some y=>exact ⟨y,rfl⟩
     have hy1:¬y=1:=fun e=>hz.2 (by rw [e])
     have e5:aW K C m=kQ nm y m3:=by rw [e4];simp only [hy1,if_false]
     refine ⟨_,_,ldP h21.top,_,ldN h21.top,(HZ nm y h21 ⟨by have:=hb3.1;omega,by have:=hb3.2;omega⟩).mono ?_⟩
     rintro e w24 ⟨rfl,ps4,h24⟩
     rw [e5]
     exact ⟨_,rfl,rfl,ps4,h24.cut⟩
end

end Go.Proofs.YtpmhjnhgpplmnaaGreatDoor
end

section
namespace Go.Proofs.YtpmhjnhgpplmnaaGreatDoor
open Go Sx
set_option maxRecDepth 8000

def zi (n:Nm):Option Int:=zx 99 1 1099511627776 n
def FF (ns:List Nm):Bool:=ns.any fun n=>(zi n).isSome
theorem I6 {m:af} (hw:WFD m) (hd:m.down=false) {n:Nm} (hn:n∈cw m):bX m n=none:=by
 obtain ⟨e,he,rfl⟩:=List.mem_map.1 hn
 have hg:=(hw.dZ.ent e he).2
 unfold bX
 rw [hd,hg]
 have hf:findD m.now e.name=some e:=(mg hw.dZ.asc).2 he
 rw [hf]
 simp
theorem Ks {m:af} (hw:WFD m) {n:Nm} (hn:n∈cw m):n.length≤64:=by
 obtain ⟨e,he,rfl⟩:=List.mem_map.1 hn
 have hg:=(hw.dZ.ent e he).2
 simp only [cN,Bool.and_eq_true,decide_eq_true_eq] at hg
 exact hg.1.2
end Go.Proofs.YtpmhjnhgpplmnaaGreatDoor
end

section
namespace Go.Proofs.YtpmhjnhgpplmnaaGreatDoor
open Go Go.Proofs.YtpmhjnhgpplmnaaGreatDoor.Sx
set_option maxRecDepth 100000
variable (w:World) (R:Ending→World→Prop)
abbrev JJ (a:World) (b c d:Nat) (e:Nat→Nat→Bool→World→Prop):Prop:=∃f:World→Prop,f a.drew∧∃g h,(∀a,f a→LdQ 143 b (c+1) (.pointer (some ⟨g,h,none⟩)) a)∧∃b,(∀a,f a→LdQ 87 d 0 (.agg b) a)∧Calls Tryz.prog 137 #[.pointer (some ⟨g,h,none⟩),.agg b] a.drew (fun a b=>∃c d,a=.returned (.tuple #[.agg c,.bool d])∧∃a:World→Prop,(∀b,a b→f b)∧a b∧Alz 100 b fun b f=>∃g:World→Prop,(∀b,g b→a b)∧g f∧Stz 100 b 0 (.agg c) f fun a=>e b 0 d a)∧Alz 100 a.drew fun a c=>∃d:World→Prop,(∀a,d a→f a)∧d c∧Calls Tryz.prog 137 #[.pointer (some ⟨g,h,none⟩),.agg b] c fun b c=>∃f g,b=.returned (.tuple #[.agg f,.bool g])∧∃b:World→Prop,(∀a,b a→d a)∧b c∧Stz 100 a 0 (.agg f) c fun b=>e a 0 g b
theorem sH (a:Array Value) (b:ByteArray) (h:Bxz 142 (.agg a) w fun a c=>Lpz 51 a 0 c fun a d=>Clz 80 #[.pointer (some ⟨a,d,none⟩)] c fun a c d e=>Cbz 88 #[.slice a c d,.string b] e fun a b=>R (.returned (.bool a)) b):Calls Tryz.prog 175 #[.agg a,.string b] w R:=aa 0x14141714631c017c Tryz.func175 (by kernel_rfl) h
theorem ru (a:Array Value) (b:Option Addr) (c d:Nat) (h:Bxz 142 (.agg a) w fun a d=>∃(e:Int→World→Prop) (f:Int→World→Nat),e 0 d∧∀d g,e d g→Ifz (decide (d<(c:Int))) (∃h i,b=some ⟨h,i,none⟩∧0≤d∧d<(c:Int)∧Lsz 9 h (i+Int.toNat d*1) g fun b=>Laz 142 a 0 g fun c=>Cbz 175 #[.agg c,.string b] g fun c h=>∃i:World→Prop,Ifz c (Lpz 51 a 0 h (fun a c=>Cvv 89 #[.pointer (some ⟨a,c,none⟩),.string b] h fun a b=>i b)) (i h)∧∀a,i a→e (IntKind.wrap .i64 (d+1)) a∧f (IntKind.wrap .i64 (d+1)) a<f d g) (R (.returned (.tuple #[])) g)):Calls Tryz.prog 136 #[.agg a,.slice b c d] w R:=aa 0x2b009141631130041f1a0414183c01538c8200321d0111811c18152983d07c Tryz.func136 (by kernel_rfl) h
theorem qT (a:ByteArray) (h:R (.returned (.bool (!(a.toList==(ByteArray.mk #[]).toList)&&decide ((a.size:Int)≤1024)))) w):Calls Tryz.prog 82 #[.string a] w R:=aa 0x13bec1d Tryz.func82 (by kernel_rfl) h
theorem kW (a:Array Value) (h:Bxz 142 (.agg a) w fun a b=>Lpz 51 a 0 b fun a c=>Clz 80 #[.pointer (some ⟨a,c,none⟩)] b fun a b c d=>Cbz 223 #[.slice a b c,.func (.func 224) #[] #[]] d fun a b=>R (.returned (.bool a)) b):Calls Tryz.prog 140 #[.agg a] w R:=aa 0x1414714631c017c Tryz.func140 (by kernel_rfl) h
theorem jR (a:ByteArray) (h:Calls Tryz.prog 26 #[.string a] w fun a b=>∃c d,a=.returned (.tuple #[.int .i64 c,.bool d])∧R (.returned (.bool d)) b):Calls Tryz.prog 224 #[.string a] w R:=aa 0x2d05240241c1d Tryz.func224 (by kernel_rfl) h
theorem Ba (a b:Nat) (c:ByteArray) (d:Option Addr) (e f:Nat) (g:Array Value) (h:Bxz 44 (.agg g) w fun g h=>Cbz 82 #[.string c] h fun h i=>Ifz (!h||(e:Int) != 48) (R (.returned (.tuple #[.pointer none,.iface 65 (.int .i64 28)])) i) (Laz 44 g 0 i (fun h=>Cvv 105 #[.agg h] i fun h i=>Nez .neq 58 (.tmp 38) h i fun j=>Ifz j (R (.returned (.tuple #[.pointer none,h])) i) (Buz 142 #[(0,.pointer (some ⟨a,b,none⟩))] i (fun h=>Alz 142 i fun i j=>Stz 142 i 0 (.agg h) j fun h=>Lpz 51 i 0 h fun j k=>Cbz 64 #[.pointer (some ⟨j,k,none⟩)] h fun h j=>Ifz h (R (.returned (.tuple #[.pointer none,.iface 65 (.int .i64 1)])) j) (Laz 142 i 0 j (fun h=>Cbz 140 #[.agg h] j fun h j=>Ifz h (R (.returned (.tuple #[.pointer none,.iface 65 (.int .i64 4)])) j) (Lpz 51 i 0 j (fun h k=>Clz 80 #[.pointer (some ⟨h,k,none⟩)] j fun h j k l=>∃(k:Int→World→Prop) (m:Int→World→Nat),k 0 l∧∀l n,k l n→Ifz (decide (l<(j:Int))) (∃a b,h=some ⟨a,b,none⟩∧0≤l∧l<(j:Int)∧Lsz 9 a (b+Int.toNat l*1) n fun a=>Lpz 51 i 0 n fun b c=>Cvv 89 #[.pointer (some ⟨b,c,none⟩),.string a] n fun a b=>Nez .neq 58 (.tmp 62) a b fun c=>Ifz c (R (.returned (.tuple #[.pointer none,a])) b) (k (IntKind.wrap .i64 (l+1)) b∧m (IntKind.wrap .i64 (l+1)) b<m l n)) (0≤(16:Int)∧16≤(e:Int)∧(e:Int)≤(f:Int)∧∀h,iU 1 d 16 f h→∃j,(Instr.arrayAt 39 (.slice h (e-16) (f-16))).run Tryz.prog n=.ok j n∧∃e,(Instr.loadAt 39 j).run Tryz.prog n=.ok (.agg e) n∧Alz 39 n fun h j=>Stz 39 h 0 (.agg e) j fun e=>∃j:World→Prop,j e.drew∧0≤(16:Int)∧16≤(f:Int)∧∃k,(∀a,j a→(Instr.arrayAt 209 (.slice d 16 f)).run Tryz.prog a=.ok k a)∧∃d,(∀a,j a→(Instr.loadAt 209 k).run Tryz.prog a=.ok (.agg d) a)∧∃f,(∀a,j a→LdQ 39 h 0 (.agg f) a)∧C4z 141 #[.string c,.agg d,.agg f] e.drew fun c d e f k=>∃l:World→Prop,(∀a,l a→j a)∧l k∧Nez .neq 58 (.tmp 80) f k fun j=>Ifz j (R (.returned (.tuple #[.pointer none,f])) k) (∃f:World→Prop,f k.drew∧∃j,(∀a,f a→LdQ 142 i 0 (.agg j) a)∧∃l,(∀a,f a→LdQ 39 h 0 (.agg l) a)∧∃h,(∀a,f a→LdQ 44 g 0 (.agg h) a)∧∃g,(∀a,f a→(Instr.build 47 #[(0,.int .i64 1),(2,.agg h)]).run Tryz.prog a=.ok (.agg g) a)∧Calls Tryz.prog 142 #[] k.drew fun h k=>∃m n,h=.returned (.pointer (some ⟨m,n,none⟩))∧∃h:World→Prop,(∀a,h a→f a)∧h k∧Caz 143 #[.agg l] k fun f k=>∃l:World→Prop,(∀a,l a→h a)∧l k∧∃h,(∀a,l a→(Instr.build 145 #[(0,.agg j),(1,.pointer (some ⟨m,n,none⟩)),(2,.agg f),(3,.agg g)]).run Tryz.prog a=.ok (.agg h) a)∧Bxz 145 (.agg h) k fun f g=>∃h:World→Prop,(∀a,h a→l a)∧h g∧Lpz 51 i 0 g fun h j=>Cvv 144 #[.pointer (some ⟨h,j,none⟩),.string (ByteArray.mk #[107,101,121])] g fun g h=>Nez .neq 58 (.tmp 94) g h fun j=>Ifz j (R (.returned (.tuple #[.pointer none,g])) h) (Lpz 51 i 0 h (fun g j=>Bsz 24 1 #[(0,.slice c d e)] h fun c d e h=>Cvv 145 #[.pointer (some ⟨g,j,none⟩),.string (ByteArray.mk #[107,101,121]),.slice c d e] h fun c d=>Nez .neq 58 (.tmp 102) c d fun e=>Ifz e (R (.returned (.tuple #[.pointer none,c])) d) (Lpz 51 i 0 d (fun c e=>Cvv 146 #[.pointer (some ⟨c,e,none⟩),.string (ByteArray.mk #[107,101,121])] d fun c d=>Nez .neq 58 (.tmp 108) c d fun e=>Ifz e (R (.returned (.tuple #[.pointer none,c])) d) (∃c:World→Prop,c d.drew∧∃e,(∀a,c a→LdQ 41 f 2 (.agg e) a)∧∃g,(∀a,c a→LdQ 47 f 98 (.agg g) a)∧Cvv 92 #[.pointer (some ⟨a,b,none⟩),.agg e,.agg g] d.drew fun a b=>∃d:World→Prop,(∀a,d a→c a)∧d b∧Nez .neq 58 (.tmp 121) a b fun c=>Ifz c (R (.returned (.tuple #[.pointer none,a])) b) (R (.returned (.tuple #[.pointer (some ⟨f,0,none⟩),.nilIface])) b))))))))))))))))):Calls Tryz.prog 54 #[.pointer (some ⟨a,b,none⟩),.string c,.slice d e f,.agg g] w R:=aa 0x3d003d30431c0001a19181948183843765321072522003d30431c01914631c2003d30431c01914751631c2003d30431c01914631c2000181374863818346181485384382380352003d30431c2001b1a1918752972864853843933621102252067839391c2b003d30431c019141631c01538c8200321d0116e11c6e21d2183980d714631c2003d3041483c2003d30414631c2067831c003d30431c0191483c2003d303be41442c20d7c Tryz.func54 (by kernel_rfl) h
theorem um (a:ByteArray) (b:Option Addr) (c d:Nat) (e:Array Value) (h:Bxz 44 (.agg e) w fun a b=>R (.returned (.tuple #[.pointer none,.iface 65 (.int .i64 28)])) b):Calls Tryz.prog 54 #[.pointer none,.string a,.slice b c d,.agg e] w R:=aa 0x3d61cd20d7c Tryz.func54 (by kernel_rfl) h
theorem yG (a:Array Value) (b:ByteArray) (h:Bxz 142 (.agg a) w fun a c=>Laz 142 a 0 c fun d=>Cbz 175 #[.agg d,.string (ByteArray.mk #[107,101,121])] c fun c d=>Ifz (!c) (Laz 142 a 0 d (fun a=>Cbz 140 #[.agg a] d fun a b=>Ifz a (R (.returned (.tuple #[.pointer none,.iface 65 (.int .i64 10)])) b) (R (.returned (.tuple #[.pointer none,.iface 65 (.int .i64 21)])) b))) (Lpz 51 a 0 d (fun c e=>C4z 57 #[.pointer (some ⟨c,e,none⟩),.string (ByteArray.mk #[107,101,121])] d fun c d e f g=>Nez .neq 58 (.tmp 23) f g fun h=>Ifz h (R (.returned (.tuple #[.pointer none,f])) g) (C3z 176 #[.string b,.slice c d e] g (fun b c d=>Alz 39 d fun d e=>Stz 39 d 0 (.agg b) e fun b=>Nez .neq 58 (.tmp 32) c b fun e=>Ifz e (R (.returned (.tuple #[.pointer none,c])) b) (∃c:World→Prop,c b.drew∧∃e,(∀b,c b→LdQ 142 a 0 (.agg e) b)∧∃f,(∀a,c a→LdQ 39 d 0 (.agg f) a)∧Calls Tryz.prog 142 #[] b.drew fun b d=>∃g h,b=.returned (.pointer (some ⟨g,h,none⟩))∧∃b:World→Prop,(∀a,b a→c a)∧b d∧Caz 143 #[.agg f] d fun c d=>∃f:World→Prop,(∀a,f a→b a)∧f d∧∃b,(∀a,f a→(Instr.build 145 #[(0,.agg e),(1,.pointer (some ⟨g,h,none⟩)),(2,.agg c)]).run Tryz.prog a=.ok (.agg b) a)∧Bxz 145 (.agg b) d fun b c=>∃d:World→Prop,(∀a,d a→f a)∧d c∧∃d:World→Prop,d c.drew∧∃e f,(∀b,d b→LdQ 51 a 0 (.pointer (some ⟨e,f,none⟩)) b)∧∃a,(∀c,d c→LdQ 41 b 2 (.agg a) c)∧C3z 91 #[.pointer (some ⟨e,f,none⟩),.agg a] c.drew fun a c e=>∃f:World→Prop,(∀a,f a→d a)∧f e∧Stz 47 b 98 (.agg a) e fun a=>R (.returned (.tuple #[.pointer (some ⟨b,0,none⟩),c])) a)))))):Calls Tryz.prog 83 #[.agg a,.string b] w R:=aa 0x4d71833203001e141d41c1b1a19185298287486362354310525200061354843818346181482380352003d30431c20167e9824dc003d30431c20529724631c003d003d3041483c230141483c20d7c Tryz.func83 (by kernel_rfl) h
theorem BS (a b:Nat) (c:ByteArray) (h:Cbz 82 #[.string c] w fun d e=>Ifz (!d) (R (.returned (.tuple #[.pointer none,.iface 65 (.int .i64 28)])) e) (Cbz 64 #[.pointer (some ⟨a,b,none⟩)] e (fun d e=>Ifz d (R (.returned (.tuple #[.pointer none,.iface 65 (.int .i64 1)])) e) (Buz 142 #[(0,.pointer (some ⟨a,b,none⟩))] e (fun a=>C2z 83 #[.agg a,.string c] e fun a b c=>Nez .neq 58 (.tmp 36) b c fun d=>Ifz d (R (.returned (.tuple #[.pointer none,b])) c) (∃b d,a=.pointer (some ⟨b,d,none⟩)∧Lpz 51 b d c fun b d=>Cvv 84 #[.pointer (some ⟨b,d,none⟩)] c fun b c=>Nez .neq 58 (.tmp 45) b c fun d=>Ifz d (R (.returned (.tuple #[.pointer none,b])) c) (∃b d,a=.pointer (some ⟨b,d,none⟩)∧Llz 45 b (d+98+8) c fun b d e=>∃(e:Int→World→Prop) (f:Int→World→Nat),e 0 c∧∀c g,e c g→Ifz (decide (c<(d:Int))) (∃h i,b=some ⟨h,i,none⟩∧0≤c∧c<(d:Int)∧Laz 91 h (i+Int.toNat c*3) g fun b=>Alz 91 g fun d h=>Stz 91 d 0 (.agg b) h fun b=>Laz 91 d 0 b fun h=>Calls Tryz.prog 85 #[a,.agg h] b fun b h=>∃i j k l,b=.returned (.tuple #[.slice i j k,.bool l])∧Ifz (!l) (∃b:World→Prop,b h.drew∧∃i j,a=.pointer (some ⟨i,j,none⟩)∧∃k l m,(∀a,b a→LdQ 29 i (j+107) (.slice k l m) a)∧∃i,(∀a,b a→LdQ 3 d 0 (.int .i64 i) a)∧Bsz 29 1 #[(0,.int .i64 i)] h.drew fun d h i j=>∃n:World→Prop,(∀a,n a→b a)∧n j∧Apz 29 (.slice k l m) (.slice d h i) j fun b d h i=>∃j:World→Prop,(∀a,j a→n a)∧j i∧∃j k,a=.pointer (some ⟨j,k,none⟩)∧Stz 29 j (k+107) (.slice b d h) i fun a=>e (IntKind.wrap .i64 (c+1)) a∧f (IntKind.wrap .i64 (c+1)) a<f c g) (∃b d,a=.pointer (some ⟨b,d,none⟩)∧Lpz 143 b (d+1) h fun a b=>Cvv 86 #[.pointer (some ⟨a,b,none⟩),.slice i j k] h fun a b=>Nez .neq 58 (.tmp 83) a b fun d=>Ifz d (R (.returned (.tuple #[.pointer none,a])) b) (e (IntKind.wrap .i64 (c+1)) b∧f (IntKind.wrap .i64 (c+1)) b<f c g))) (∃b c,a=.pointer (some ⟨b,c,none⟩)∧Laz 47 b (c+98) g fun b=>Clz 87 #[.agg b] g fun b c d e=>∃f g,a=.pointer (some ⟨f,g,none⟩)∧Lpz 51 f g e fun f g=>Clz 80 #[.pointer (some ⟨f,g,none⟩)] e fun e f g h=>∃(g:Int→World→Prop) (i:Int→World→Nat),g 0 h∧∀h j,g h j→Ifz (decide (h<(f:Int))) (∃k l,e=some ⟨k,l,none⟩∧0≤h∧h<(f:Int)∧Lsz 9 k (l+Int.toNat h*1) j fun e=>Cbz 88 #[.slice b c d,.string e] j fun b c=>Ifz b (g (IntKind.wrap .i64 (h+1)) c∧i (IntKind.wrap .i64 (h+1)) c<i h j) (∃b d,a=.pointer (some ⟨b,d,none⟩)∧Lpz 51 b d c fun a b=>Cvv 89 #[.pointer (some ⟨a,b,none⟩),.string e] c fun a b=>Cbz 90 #[a,.iface 65 (.int .i64 1)] b fun b c=>Ifz b (R (.returned (.tuple #[.pointer none,a])) c) (g (IntKind.wrap .i64 (h+1)) c∧i (IntKind.wrap .i64 (h+1)) c<i h j))) (R (.returned (.tuple #[a,.nilIface])) j))))))))):Calls Tryz.prog 21 #[.pointer (some ⟨a,b,none⟩),.string c] w R:=aa 0x3d2b003d30414dc01914163dea1c0030414dc201538c8200321d0111cb12b1cb228243980d71463dea1c201714831ea1c2b003d30431c019141631ea1c0011b1041b401a1e1917218472740637435322e2110225232d20524724831c067838c8200321d0116e1496e41a243980d73dea1c2003d30431c0191463dea1c2003d30431c205299241831c003d304141c2003d30d41442c22d Tryz.func21 (by kernel_rfl) h
theorem uv (a:ByteArray) (h:R (.returned (.tuple #[.pointer none,.iface 65 (.int .i64 28)])) w):Calls Tryz.prog 21 #[.pointer none,.string a] w R:=aa 0x3d67d22d Tryz.func21 (by kernel_rfl) h
theorem oN (a b:Nat) (h:Alz 47 w fun c d=>Laz 47 a (b+98) d fun a=>Caz 40 #[.agg a] d fun a b=>Stz 47 c 0 (.agg a) b fun a=>∃b,(loadVar 47 ⟨c,0,none⟩).run Tryz.prog a=.ok b a∧R (.returned b) a):Calls Tryz.prog 16 #[.pointer (some ⟨a,b,none⟩)] w R:=aa 0x681483ec072d207c Tryz.func16 (by kernel_rfl) h
theorem lN (h:Alz 47 w fun a b=>Buz 47 #[] b fun c=>Stz 47 a 0 (.agg c) b fun b=>∃c,(loadVar 47 ⟨a,0,none⟩).run Tryz.prog b=.ok c b∧R (.returned c) b):Calls Tryz.prog 16 #[.pointer none] w R:=aa 0x683c62d207c Tryz.func16 (by kernel_rfl) h
theorem tX (a b:Nat) (h:Alz 41 w fun c d=>Laz 41 a (b+2) d fun a=>Stz 41 c 0 (.agg a) d fun a=>∃b,(loadVar 41 ⟨c,0,none⟩).run Tryz.prog a=.ok b a∧R (.returned b) a):Calls Tryz.prog 53 #[.pointer (some ⟨a,b,none⟩)] w R:=aa 0x683ec072d207c Tryz.func53 (by kernel_rfl) h
theorem nQ (h:Alz 41 w fun a b=>Buz 41 #[] b fun c=>Stz 41 a 0 (.agg c) b fun b=>∃c,(loadVar 41 ⟨a,0,none⟩).run Tryz.prog b=.ok c b∧R (.returned c) b):Calls Tryz.prog 53 #[.pointer none] w R:=aa 0x683c62d207c Tryz.func53 (by kernel_rfl) h
theorem tq (a b:Nat) (h:Lpz 143 a (b+1) w fun a b=>Clz 121 #[.pointer (some ⟨a,b,none⟩)] w fun a b c d=>R (.returned (.slice a b c)) d):Calls Tryz.prog 43 #[.pointer (some ⟨a,b,none⟩)] w R:=aa 0x171463ec072d21d Tryz.func43 (by kernel_rfl) h
theorem nH (h:R (.returned (.slice none 0 0)) w):Calls Tryz.prog 43 #[.pointer none] w R:=aa 0x1d62d21d Tryz.func43 (by kernel_rfl) h
theorem lG (h:R (.returned (.slice none 0 0)) w):Calls Tryz.prog 22 #[.pointer none] w R:=aa 0x1d62d21d Tryz.func22 (by kernel_rfl) h
theorem nX (a:Array Value) (h:Bxz 87 (.agg a) w fun a b=>R (.returned (.bool false)) b):Calls Tryz.prog 52 #[.pointer none,.agg a] w R:=aa 0x1d62d2017c Tryz.func52 (by kernel_rfl) h
theorem q9 (a b:Nat) (h:Lbz 4 a (b+108) w fun c=>Ifz c (R (.returned (.iface 65 (.int .i64 22))) w) (Lpz 51 a b w (fun a b=>Cbz 64 #[.pointer (some ⟨a,b,none⟩)] w fun a b=>Ifz a (R (.returned (.iface 65 (.int .i64 1))) b) (R (.returned .nilIface) b)))):Calls Tryz.prog 126 #[.pointer (some ⟨a,b,none⟩)] w R:=aa 0x1d002d3014146342c02d30143ec73d821d Tryz.func126 (by kernel_rfl) h
theorem mZ (h:R (.returned (.iface 65 (.int .i64 28))) w):Calls Tryz.prog 126 #[.pointer none] w R:=aa 0x2d63d821d Tryz.func126 (by kernel_rfl) h
theorem uR (a b:Nat) (c:Array Value) (h:Bxz 87 (.agg c) w fun c d=>Cvv 126 #[.pointer (some ⟨a,b,none⟩)] d fun d e=>Nez .neq 58 (.tmp 14) d e fun f=>Ifz f (R (.returned (.tuple #[.slice none 0 0,d])) e) (∃d:Nat→Nat→Bool→World→Prop,JJ e a b c d∧∀e f g h,d e f g h→Ifz (!g) (R (.returned (.tuple #[.slice none 0 0,.iface 65 (.int .i64 10)])) h) (∃d:World→Prop,d h.drew∧∃g i,(∀c,d c→LdQ 51 a b (.pointer (some ⟨g,i,none⟩)) c)∧∃j,(∀a,d a→LdQ 3 e (f+32) (.int .i64 j) a)∧∃k,(∀a,d a→LdQ 3 e (f+33) (.int .i64 k) a)∧∃l,(∀a,d a→LdQ 3 e (f+34) (.int .i64 l) a)∧Csz 132 #[.int .i64 j] h.drew fun e f=>∃h:World→Prop,(∀a,h a→d a)∧h f∧C4z 138 #[.pointer (some ⟨g,i,none⟩),.string e,.int .i64 k,.int .i64 l] f fun d e f g i=>∃j:World→Prop,(∀a,j a→h a)∧j i∧Nez .neq 58 (.tmp 45) g i fun g=>Ifz g (R (.returned (.tuple #[.slice none 0 0,.iface 65 (.int .i64 10)])) i) (∃g:World→Prop,g i.drew∧0≤(32:Int)∧(32:Int)≤32∧∃h,(∀c,g c→LdQ 41 a (b+2) (.agg h) c)∧C4z 111 #[.agg h,.int .u8 2,.slice (some ⟨c,0,none⟩) 32 32,.slice d e f] i.drew fun d e f h i=>∃j:World→Prop,(∀a,j a→g a)∧j i∧Nez .neq 58 (.tmp 58) h i fun g=>Ifz g (R (.returned (.tuple #[.slice none 0 0,h])) i) (∃g:World→Prop,g i.drew∧∃h,(∀c,g c→LdQ 41 a (b+2) (.agg h) c)∧∃a,(∀b,g b→LdQ 87 c 0 (.agg a) b)∧Caz 139 #[.agg h,.slice d e f] i.drew fun b c=>∃h:World→Prop,(∀a,h a→g a)∧h c∧∃g,(∀c,h c→(dK .neq 87 (.tmp 66) (.tmp 67) (.agg b) (.agg a)).run Tryz.prog c=.ok (.bool g) c)∧Ifz g (R (.returned (.tuple #[.slice none 0 0,.iface 65 (.int .i64 10)])) c) (R (.returned (.tuple #[.slice d e f,.nilIface])) c)))))):Calls Tryz.prog 51 #[.pointer (some ⟨a,b,none⟩),.agg c] w R:=aa 0x3d003d30047381854863833421042522003d30431c2001b1a19187529728648330516412103252003d30431c20029281f1e1d5297281c45187401b301930636431a18532107252003d32d221a272001b141a4187632482854319001b141a431941876324828568436332103254622711929272a2003d30431c019141c20d7c Tryz.func51 (by kernel_rfl) h
theorem oP (a:Array Value) (h:Bxz 87 (.agg a) w fun a b=>Cvv 126 #[.pointer none] b fun a b=>Nez .neq 58 (.tmp 14) a b fun c=>Ifz c (R (.returned (.tuple #[.slice none 0 0,a])) b) False):Calls Tryz.prog 51 #[.pointer none,.agg a] w R:=aa 0x42003d30431c019141c20d7c Tryz.func51 (by kernel_rfl) h
theorem ry (a b:Nat) (c:Option Addr) (d e:Nat) (f:Option Addr) (g i:Nat) (h:∃e h,(Instr.makeMap 301 none).run Tryz.prog w=.ok e h∧∃(j:Option Addr→Nat→Nat→Int→World→Prop) (k:Option Addr→Nat→Nat→Int→World→Nat),j none 0 0 0 h∧∀h l m n o,j h l m n o→Ifz (decide (n<(d:Int))) (∃p q,c=some ⟨p,q,none⟩∧0≤n∧n<(d:Int)∧Llz 26 p (q+Int.toNat n*1) o fun c d p=>Laz 41 a (b+2) o fun q=>Caz 139 #[.agg q,.slice c d p] o fun q r=>Alz 87 r fun r s=>Stz 87 r 0 (.agg q) s fun q=>∃s:Nat→Nat→Bool→World→Prop,JJ q a b r s∧∀q t u v,s q t u v→∃s:Bool→World→Prop,Laz 87 r 0 v (fun a=>∃b,(Instr.lookup 301 e (.agg a) false).run Tryz.prog v=.ok (.int .i64 b) v∧Ifz (decide (b>(0:Int))) (s true v) (Ifz u (Liz 3 q (t+32) v (fun a=>Cbz 135 #[.slice f g i,.int .i64 a] v fun a b=>s (!a) b)) (s false v)))∧∀f g,s f g→Ifz f (j h l m (IntKind.wrap .i64 (n+1)) g∧k h l m (IntKind.wrap .i64 (n+1)) g<k h l m n o) (∃f:World→Prop,f g.drew∧∃i,(∀a,f a→LdQ 87 r 0 (.agg i) a)∧∃q,(∀a,f a→(Instr.lookup 301 e (.agg i) false).run Tryz.prog a=.ok (.int .i64 q) a)∧∃s t u,(Instr.mapEntry 301 e (.agg i)).run Tryz.prog g.drew=.ok (.tuple #[s,.int .i64 t]) u∧∃g:World→Prop,(∀a,g a→f a)∧g u∧∃f,(Instr.entryStore 301 e (.int .i64 t) (.int .i64 (IntKind.wrap .i64 (q+1)))).run Tryz.prog u=.ok () f∧∃e:World→Prop,e f.drew∧0≤(32:Int)∧(32:Int)≤32∧∃g,(∀a,e a→LdQ 87 r 0 (.agg g) a)∧∃i,(∀c,e c→LdQ 41 a (b+2) (.agg i) c)∧Clz 101 #[.agg i,.int .u8 2,.slice (some ⟨r,0,none⟩) 32 32,.slice c d p] f.drew fun a b c d=>∃f:World→Prop,(∀a,f a→e a)∧f d∧∃e,(∀d,f d→(Instr.build 303 #[(0,.agg g),(1,.slice a b c)]).run Tryz.prog d=.ok (.agg e) d)∧Bsz 212 1 #[(0,.agg e)] d fun a b c d=>∃e:World→Prop,(∀a,e a→f a)∧e d∧Apz 212 (.slice h l m) (.slice a b c) d fun a b c d=>∃f:World→Prop,(∀a,f a→e a)∧f d∧j a b c (IntKind.wrap .i64 (n+1)) d∧k a b c (IntKind.wrap .i64 (n+1)) d<k h l m n o)) (R (.returned (.slice h l m)) o)):Calls Tryz.prog 127 #[.pointer (some ⟨a,b,none⟩),.slice c d e,.slice f g i] w R:=aa 0x2d2b0001c1721b4721a4819371818485381307166143204251610464051092944031023813001520030720e41403d5acd019258cd0383114116911e4c1a2221a272001b141a4187632482854319001b141a4319418763248285684363321032546221c1193b21c2a2067814183ec01738c8200321d0721291726c2941a173983d20195c1d1d Tryz.func127 (by kernel_rfl) h
theorem sW (a b:Nat) (c:Option Addr) (d e:Nat) (f:Option Addr) (g i:Nat) (j:Bool) (h:Alz 47 w fun h k=>Laz 47 a (b+98) k fun l=>Alz 47 k fun k m=>Stz 47 k 0 (.agg l) m fun l=>∃m:Bool→World→Prop,Liz 3 k 0 l (fun a=>Ifz (a==(1099511627776:Int)) (m true l) (Ifz j (Liz 3 k 1 l (fun a=>m (a==(1099511627776:Int)) l)) (m false l)))∧∀l n,m l n→Ifz l (Laz 47 k 0 n (fun a=>Stz 47 h 0 (.agg a) n fun a=>∃b,(loadVar 47 ⟨h,0,none⟩).run Tryz.prog a=.ok b a∧R (.returned (.tuple #[b,.slice none 0 0,.iface 65 (.int .i64 20)])) a)) (Liz 3 k 0 n (fun l=>Stz 3 k 0 (.int .i64 (IntKind.wrap .i64 (l+1))) n fun l=>Clz 109 #[.slice c d e] l fun c d e l=>Stz 25 k 7 (.slice c d e) l fun c=>Stz 45 k 8 (.slice none 0 0) c fun c=>Llz 45 a (b+98+8) c fun a b d=>∃(d:Option Addr→Nat→Nat→Int→World→Prop) (e:Option Addr→Nat→Nat→Int→World→Nat),d none 0 0 0 c∧∀c l m n o,d c l m n o→Ifz (decide (n<(b:Int))) (∃h j,a=some ⟨h,j,none⟩∧0≤n∧n<(b:Int)∧Laz 91 h (j+Int.toNat n*3) o fun a=>Alz 91 o fun b h=>Stz 91 b 0 (.agg a) h fun a=>Liz 3 b 0 a fun h=>Cbz 135 #[.slice f g i,.int .i64 h] a fun a f=>∃g:Option Addr→Nat→Nat→World→Prop,Ifz a (Laz 91 b 0 f (fun a=>Bsz 45 1 #[(0,.agg a)] f fun a b d e=>Apz 45 (.slice c l m) (.slice a b d) e fun a b c d=>g a b c d)) (Llz 45 k 8 f (fun a d e=>Laz 91 b 0 f fun b=>Bsz 45 1 #[(0,.agg b)] f fun b f h i=>Apz 45 (.slice a d e) (.slice b f h) i fun a b d e=>Stz 45 k 8 (.slice a b d) e fun a=>g c l m a))∧∀a b f h,g a b f h→d a b f (IntKind.wrap .i64 (n+1)) h∧e a b f (IntKind.wrap .i64 (n+1)) h<e c l m n o) (∃a:World→Prop,Ifz j (Llz 45 k 8 o (fun b c d=>Liz 3 k 1 o fun e=>Buz 91 #[(0,.int .i64 e)] o fun e=>Bsz 45 1 #[(0,.agg e)] o fun e f g h=>Apz 45 (.slice b c d) (.slice e f g) h fun b c d e=>Stz 45 k 8 (.slice b c d) e fun b=>Liz 3 k 1 b fun c=>Stz 3 k 1 (.int .i64 (IntKind.wrap .i64 (c+1))) b fun b=>a b)) (a o)∧∀b,a b→Llz 45 k 8 b fun a d e=>Ifz (decide ((d:Int)>1024)) (Laz 47 k 0 b (fun a=>Stz 47 h 0 (.agg a) b fun a=>∃b,(loadVar 47 ⟨h,0,none⟩).run Tryz.prog a=.ok b a∧R (.returned (.tuple #[b,.slice none 0 0,.iface 65 (.int .i64 19)])) a)) (∃a:World→Prop,a b.drew∧∃d,(∀b,a b→LdQ 47 k 0 (.agg d) b)∧∃e,(∀b,a b→LdQ 47 k 0 (.agg e) b)∧Cvv 38 #[.agg e] b.drew fun b e=>∃f:World→Prop,(∀b,f b→a b)∧f e∧Stz 47 h 0 (.agg d) e fun a=>∃d,(loadVar 47 ⟨h,0,none⟩).run Tryz.prog a=.ok d a∧R (.returned (.tuple #[d,.slice c l m,b])) a))))):Calls Tryz.prog 128 #[.pointer (some ⟨a,b,none⟩),.slice c d e,.slice f g i,.bool j] w R:=aa 0x34112065224449183482380301152000d6183c30d731c2006d0311061757583031731c3001c18a1a1d22b0617575837311017575831137111c11a6e11c2a041403dc067838c8200321d07215e11c22b5e11e11c3980d7342c21d061c0617141c06d031c000d6183c30520e03138cd0722ecd03114113d11b2b1a2206783ec0d7c Tryz.func128 (by kernel_rfl) h
theorem rE (a b:Nat) (c:Option Addr) (d e:Nat) (f:Option Addr) (g i:Nat) (j:Option Addr) (k l:Nat) (h:Bxz 29 (.slice j k l) w fun h j=>Cvv 126 #[.pointer (some ⟨a,b,none⟩)] j fun j k=>Nez .neq 58 (.tmp 22) j k fun l=>Ifz l (R (.returned j) k) (Llz 29 h 0 k (fun j l m=>Clz 127 #[.pointer (some ⟨a,b,none⟩),.slice c d e,.slice j l m] k fun c d e j=>Llz 29 h 0 j fun k l m=>Calls Tryz.prog 128 #[.pointer (some ⟨a,b,none⟩),.slice f g i,.slice k l m,.bool (decide ((d:Int)>0))] j fun f g=>∃i j k l m,f=.returned (.tuple #[.agg i,.slice j k l,m])∧Alz 47 g fun f g=>Stz 47 f 0 (.agg i) g fun g=>Nez .neq 58 (.tmp 40) m g fun i=>Ifz i (R (.returned m) g) (C4z 129 #[.pointer (some ⟨a,b,none⟩),.pointer (some ⟨f,0,none⟩),.slice c d e] g (fun c e g i l=>Nez .neq 58 (.tmp 49) i l fun m=>Ifz m (Cvv 130 #[.pointer (some ⟨a,b,none⟩),i,.bool (decide ((d:Int)>0))] l (fun a b=>R (.returned a) b)) (Liz 3 a (b+98) l (fun d=>Csz 30 #[.int .i64 d] l fun d i=>Laz 47 f 0 i fun f=>Stz 47 a (b+98) (.agg f) i fun f=>∃i:World→Prop,i f.drew∧∃l m,(∀c,i c→LdQ 143 a (b+1) (.pointer (some ⟨l,m,none⟩)) c)∧∃n o p,(∀a,i a→LdQ 29 h 0 (.slice n o p) a)∧Calls Tryz.prog 131 #[.pointer (some ⟨l,m,none⟩),.slice n o p] f.drew fun f l=>f=.returned (.tuple #[])∧∃f:World→Prop,(∀a,f a→i a)∧f l∧Lpz 143 a (b+1) l fun f i=>Cvv 86 #[.pointer (some ⟨f,i,none⟩),.slice c e g] l fun c e=>Nez .neq 58 (.tmp 79) c e fun f=>Ifz f (R (.returned c) e) (Bsz 166 1 #[(0,.string d)] e (fun c d e f=>∃(g:Option Addr→Nat→Nat→Int→World→Prop) (i:Option Addr→Nat→Nat→Int→World→Nat),g c d e 0 f∧∀c d e f l,g c d e f l→Ifz (decide (f<(k:Int))) (∃a b,j=some ⟨a,b,none⟩∧0≤f∧f<(k:Int)∧Laz 91 a (b+Int.toNat f*3) l fun a=>Alz 91 l fun b h=>Stz 91 b 0 (.agg a) h fun a=>Liz 3 b 0 a fun b=>Csz 132 #[.int .i64 b] a fun a b=>Bsz 166 1 #[(0,.string a)] b fun a b h j=>Apz 166 (.slice c d e) (.slice a b h) j fun a b h j=>g a b h (IntKind.wrap .i64 (f+1)) j∧i a b h (IntKind.wrap .i64 (f+1)) j<i c d e f l) (Llz 29 a (b+107) l (fun f g i=>∃j k,(Instr.makeFunc (.func 134) #[] #[.pointer (some ⟨h,0,none⟩)]).run Tryz.prog l=.ok j k∧Clz 133 #[.slice f g i,j] k fun f g h i=>Stz 29 a (b+107) (.slice f g h) i fun f=>Laz 142 a b f fun a=>Calls Tryz.prog 136 #[.agg a,.slice c d e] f fun a b=>a=.returned (.tuple #[])∧R (.returned .nilIface) b))))))))))):Calls Tryz.prog 49 #[.pointer (some ⟨a,b,none⟩),.slice c d e,.slice f g i,.slice j k l] w R:=aa 0x1d004183ec06d714957342c2b01757551403d1067838c8200321d07211ae12921b1ae12b1293983d201751c002d30431c01914163ec2000854743633210325206d831c015140342c000191452c30431c20529724dc002d30431c20d674297834e73dc0171473dc002d30431c019141c2017c Tryz.func49 (by kernel_rfl) h
theorem mN (a:Option Addr) (b c:Nat) (d:Option Addr) (e f:Nat) (g:Option Addr) (i j:Nat) (h:Bxz 29 (.slice g i j) w fun g h=>Cvv 126 #[.pointer none] h fun h i=>Nez .neq 58 (.tmp 22) h i fun j=>Ifz j (R (.returned h) i) (Llz 29 g 0 i (fun h j k=>Clz 127 #[.pointer none,.slice a b c,.slice h j k] i fun a b c h=>Llz 29 g 0 h fun g i j=>Calls Tryz.prog 128 #[.pointer none,.slice d e f,.slice g i j,.bool (decide ((b:Int)>0))] h fun d e=>∃f g h i j,d=.returned (.tuple #[.agg f,.slice g h i,j])∧Alz 47 e fun d e=>Stz 47 d 0 (.agg f) e fun e=>Nez .neq 58 (.tmp 40) j e fun f=>Ifz f (R (.returned j) e) (C4z 129 #[.pointer none,.pointer (some ⟨d,0,none⟩),.slice a b c] e (fun a c d e f=>Nez .neq 58 (.tmp 49) e f fun a=>Ifz a (Cvv 130 #[.pointer none,e,.bool (decide ((b:Int)>0))] f (fun a b=>R (.returned a) b)) False))))):Calls Tryz.prog 49 #[.pointer none,.slice a b c,.slice d e f,.slice g i j] w R:=aa 0x2d000191452c30431c20529724dc002d30431c20d674297834e73dc0171473dc002d30431c019141c2017c Tryz.func49 (by kernel_rfl) h
theorem qZ (a b c d:Nat) (e:Option Addr) (f g:Nat) (h:∃h:Option Addr→Nat→Nat→World→Prop,Ifz (decide ((f:Int)>0)) (∃i:World→Prop,i w.drew∧∃j k l,(∀a,i a→LdQ 45 c (d+8) (.slice j k l) a)∧∃l m n,(∀a,i a→LdQ 45 c (d+8) (.slice l m n) a)∧∃c d,j=some ⟨c,d,none⟩∧0≤IntKind.wrap .i64 ((m:Int)-1)∧IntKind.wrap .i64 ((m:Int)-1)<(k:Int)∧Liz 3 c (d+Int.toNat (IntKind.wrap .i64 ((m:Int)-1))*3) w.drew fun i=>Csz 132 #[.int .i64 i] w.drew fun i j=>Laz 142 a b j fun k=>Cbz 175 #[.agg k,.string i] j fun j k=>∃l:World→Prop,Ifz j (Lpz 51 a b k (fun a b=>Cvv 89 #[.pointer (some ⟨a,b,none⟩),.string i] k fun a b=>Nez .neq 58 (.tmp 45) a b fun c=>Ifz c (R (.returned (.tuple #[.slice none 0 0,a])) b) (l b))) (l k)∧∀i,l i→∃j:World→Prop,j i.drew∧∃k l,(∀c,j c→LdQ 51 a b (.pointer (some ⟨k,l,none⟩)) c)∧∃n,(∀c,j c→LdQ 41 a (b+2) (.agg n) c)∧∃a,(∀b,j b→LdQ 3 c (d+Int.toNat (IntKind.wrap .i64 ((m:Int)-1))*3) (.int .i64 a) b)∧Calls Tryz.prog 220 #[.pointer (some ⟨k,l,none⟩),.agg n,.int .i64 a,.slice e f g] i.drew fun a b=>∃e f g i k,a=.returned (.tuple #[.slice e f g,.agg i,k])∧∃a:World→Prop,(∀b,a b→j b)∧a b∧Stz 91 c (d+Int.toNat (IntKind.wrap .i64 ((m:Int)-1))*3) (.agg i) b fun a=>Nez .neq 58 (.tmp 69) k a fun b=>Ifz b (R (.returned (.tuple #[.slice none 0 0,k])) a) (h e f g a)) (h none 0 0 w)∧∀e f g i,h e f g i→∃h:World→Prop,h i.drew∧∃j k,(∀c,h c→LdQ 51 a b (.pointer (some ⟨j,k,none⟩)) c)∧∃l,(∀c,h c→LdQ 41 a (b+2) (.agg l) c)∧∃a,(∀b,h b→LdQ 47 c d (.agg a) b)∧Cvv 92 #[.pointer (some ⟨j,k,none⟩),.agg l,.agg a] i.drew fun a b=>∃c:World→Prop,(∀a,c a→h a)∧c b∧R (.returned (.tuple #[.slice e f g,a])) b):Calls Tryz.prog 129 #[.pointer (some ⟨a,b,none⟩),.pointer (some ⟨c,d,none⟩),.slice e f g] w R:=aa 0x1f1e229181d481c381936531b1a1876432101a2520003d30431c182811e31a36505002f142e42d2c2b2a292862987381f401d381936531e1c1b1a1876432101c2521d0003d30431c0191416342c3001a4e11b263a0414183ec0151403ec20001b151a1191822773733654210625237111817828762a3d21d2d Tryz.func129 (by kernel_rfl) h
theorem qa (a b:Nat) (c:Value) (d:Bool) (h:∃e:Bool→World→Prop,Cbz 90 #[c,.iface 65 (.int .i64 1)] w (fun a b=>Ifz a (e true b) (Cbz 90 #[c,.iface 65 (.int .i64 22)] b (fun a b=>e a b)))∧∀f g,e f g→Ifz f (Stz 4 a (b+108) (.bool true) g (fun a=>R (.returned c) a)) (∃e:World→Prop,Ifz d (∃c:World→Prop,c g.drew∧∃d,(∀e,c e→LdQ 142 a b (.agg d) e)∧∃f,(∀d,c d→LdQ 3 a (b+98+1) (.int .i64 f) d)∧Csz 132 #[.int .i64 f] g.drew fun a b=>∃f:World→Prop,(∀a,f a→c a)∧f b∧Bsz 166 1 #[(0,.string a)] b fun a b c g=>∃h:World→Prop,(∀a,h a→f a)∧h g∧Calls Tryz.prog 136 #[.agg d,.slice a b c] g fun a b=>a=.returned (.tuple #[])∧∃a:World→Prop,(∀b,a b→h b)∧a b∧e b) (e g)∧∀d,e d→Laz 142 a b d fun a=>Bsz 166 1 #[(0,.string (ByteArray.mk #[116]))] d fun b d e f=>Calls Tryz.prog 136 #[.agg a,.slice b d e] f fun a b=>a=.returned (.tuple #[])∧R (.returned c) b)):Calls Tryz.prog 130 #[.pointer (some ⟨a,b,none⟩),c,.bool d] w R:=aa 0x2d0047583ec000081b4721a4518194018383376542107253001c2c1a1d2002d06ec301414d0421ac1414d14111e11871a221d Tryz.func130 (by kernel_rfl) h
theorem gw (a:Option Addr) (b c:Nat) (d:Value) (h:Ciz 291 #[.slice a b c,d] w fun a b=>R (.returned (.bool (decide (a≥(0:Int))))) b):Calls Tryz.prog 223 #[.slice a b c,d] w R:=aa 0xd014dc1d Tryz.func223 (by kernel_rfl) h
theorem gY (a:Option Addr) (b c:Nat) (d:Value) (h:∃(c:Int→World→Prop) (e:Int→World→Nat),c 0 w∧∀f g,c f g→Ifz (decide (f<(b:Int))) (∃h i,a=some ⟨h,i,none⟩∧0≤f∧f<(b:Int)∧Lsz 9 h (i+Int.toNat f*1) g fun a=>∃(b:Nat) (h:List Value),d=.func (.func b) #[] ⟨h⟩∧gN Tryz.prog b=true∧Calls Tryz.prog b (([.string a]:List Value)++h).toArray g fun a b=>∃d,a=.returned (.bool d)∧Ifz d (R (.returned (.int .i64 f)) b) (c (IntKind.wrap .i64 (f+1)) b∧e (IntKind.wrap .i64 (f+1)) b<e f g)) (R (.returned (.int .i64 (-1))) g)):Calls Tryz.prog 291 #[.slice a b c,d] w R:=aa 0x1d2b002d3041ba538ec2d8200321d0111811b18242983d21d Tryz.func291 (by kernel_rfl) h
theorem jG (a:Option Addr) (b c:Nat) (d:Value) (h:Ciz 166 #[.slice a b c,d] w fun e f=>Ifz (e==(-1:Int)) (R (.returned (.slice a b c)) f) (∃(g:Int→Int→World→Prop) (h:Int→Int→World→Nat),g e (IntKind.wrap .i64 (e+1)) f∧∀e f i,g e f i→Ifz (decide (f<(b:Int))) (∃c j,a=some ⟨c,j,none⟩∧0≤f∧f<(b:Int)∧Liz 3 c (j+Int.toNat f*1) i fun c=>∃(j:Nat) (k:List Value),d=.func (.func j) #[] ⟨k⟩∧gN Tryz.prog j=true∧Calls Tryz.prog j (([.int .i64 c]:List Value)++k).toArray i fun d j=>∃k,d=.returned (.bool k)∧∃d:Int→World→Prop,Ifz (!k) (∃f g,a=some ⟨f,g,none⟩∧0≤e∧e<(b:Int)∧Stz 3 f (g+Int.toNat e*1) (.int .i64 c) j fun a=>d (IntKind.wrap .i64 (e+1)) a) (d e j)∧∀a b,d a b→g a (IntKind.wrap .i64 (f+1)) b∧h a (IntKind.wrap .i64 (f+1)) b<h e f i) (0≤e∧e≤(b:Int)∧(b:Int)≤(c:Int)∧∀d,iU 1 a (Int.toNat e) c d→∃f g,(Builtin.clear_ #[29] 0 #[.slice d (b-Int.toNat e) (c-Int.toNat e)]).run Tryz.prog i=.ok f g∧0≤e∧e≤(c:Int)∧R (.returned (.slice a (Int.toNat e) c)) g))):Calls Tryz.prog 133 #[.slice a b c,d] w R:=aa 0x19dc0959dc3b03b068ec30115163e152a0141badc01038dc820034d20022512c28352983d2002d32d201014dc1d Tryz.func133 (by kernel_rfl) h
end Go.Proofs.YtpmhjnhgpplmnaaGreatDoor
end

section
namespace Go.Proofs.YtpmhjnhgpplmnaaGreatDoor
open Go Sx
set_option maxRecDepth 8000

theorem plA (w:World):(isAgg 142).run Tryz.prog w=.ok true w:=Tryz.isAgg142 w
theorem plS (w:World):(sizeOf 142).run Tryz.prog w=.ok 1 w:=Tryz.sizeOf142 w
abbrev plV (gd:Nat):Value:=.agg [pV gd].toArray

def cO:Nm:=[107,101,121]
def bM (s:ByteArray):Bool:=decide (1≤s.size∧s.size≤1024)
theorem lS (s:ByteArray) (w:World):Calls Tryz.prog 82 #[.string s] w fun e w'=>e=.returned (.bool (bM s))∧w'=w:=by
 apply qT
 refine ⟨?_,rfl⟩
 have h0:(s.toList==(ByteArray.mk #[]).toList)=decide (s.size=0):=by
   rw [ByteArray.toList_eq,ByteArray.toList_eq]
   rw [Bool.eq_iff_iff,decide_eq_true_eq,beq_iff_eq]
   show s.data.toList=[]↔s.data.size=0
   rw [Array.toList_eq_nil_iff,Array.size_eq_zero_iff]
 rw [h0]
 unfold bM
 congr 2
 rw [Bool.eq_iff_iff]
 simp only [Bool.and_eq_true,Bool.not_eq_true',decide_eq_true_eq,decide_eq_false_iff_not]
 omega

section
variable {w0 w w':World} {N:List Res} {gd:Nat} {ps:List Nat} {m:af}

theorem yd (n:Nm) (h:ah w0 [] w gd ps m N):Calls Tryz.prog 175 #[plV gd,aJ n] w fun e w'=>e=.returned (.bool (vk m n))∧Chg [] w w':=by
 apply sH
 obtain ⟨g2,w1,r1,k1⟩:=(St.start w).b7 (P:=Tryz.prog) 142 [pV gd]
 have k1:St w [] w1 [.arr g2 142 [pV gd]]:=k1
 refine ⟨g2,w1,r1,_,_,k1.ldL (i:=0) (l:=[pV gd]) rfl (pdA _) rfl rfl,(mz (h.same k1.chg)).mono ?_⟩
 rintro e w2 ⟨la,lc,rfl,k2⟩
 have hnl:(cw m).length≤4096:=by have:=h.wf.dZ.len;simpa [cw] using this
 refine ⟨_,_,_,rfl,(pq la _ lc (cw m) n w2 (k2.rd (i:=0) rfl) (by omega)).mono ?_⟩
 rintro e w3 ⟨rfl,rfl⟩
 exact ⟨_,rfl,rfl,k1.chg.trans k2.chg⟩

theorem tO (s:List UInt8) (hs:s.length≤281474976710656) (w:World) (hT:jr w) (hE:rV w):Calls Tryz.prog 224 #[aJ s] w fun e w'=>e=.returned (.bool (zi s).isSome)∧Chg [] w w':=by
 apply jR
 refine (De s hs w hT hE).mono ?_
 rintro e w1 ⟨rfl,c1⟩
 exact ⟨_,_,rfl,rfl,c1⟩

theorem Ew (a:Option Addr) (n c:Nat) (ns:List Nm) (w:World) (hl:∀x∈ns,x.length≤64) (hT:jr w) (hE:rV w) (hr:Rd w a n c 1 (ns.map aJ)) (hb:n≤4611686018427387904):
   Calls Tryz.prog 291 #[.slice a n c,.func (.func 224) #[] #[]] w fun e w'=>∃t:Int,e=.returned (.int .i64 t)∧decide (t≥0)=FF ns∧Chg [] w w':=by
 have hln:ns.length=n:=by have:=hr.len;simpa using this
 apply gY
 refine ⟨fun y w'=>∃i:Nat,y=(i:Int)∧i≤n∧FF (ns.take i)=false∧Chg [] w w',fun y _=>n-y.toNat,⟨0,rfl,by omega,by simp [FF],Chg.refl _ _⟩,?_⟩
 rintro y w1 ⟨i,rfl,hi,hno,hc⟩
 refine ⟨fun h=>?_,fun h=>?_⟩
 · have hi':i<n:=by simp at h;omega
   obtain ⟨s,hs⟩:∃s,ns[i]?=some s:=⟨_,List.getElem?_eq_getElem (by omega)⟩
   obtain ⟨b,o,ha,hcl⟩:=(hr.an hc).cells.at_ (i:=i) (v:=aJ s) (by rw [List.getElem?_map,hs];rfl)
   have hm:=List.mem_of_getElem? hs
   refine ⟨b,o,ha,by omega,by omega,_,by rw [Int.toNat_natCast,Nat.mul_one];exact ld1 (DD _) hcl,_,[],rfl,by kernel_rfl,(tO s (by have:=hl s hm;omega) w1 (hT.an hc) (hE.an hc)).mono ?_⟩
   rintro e w2 ⟨rfl,c2⟩
   refine ⟨_,rfl,fun h=>?_,fun h=>⟨⟨i+1,aq hi' hb,by omega,?_,hc.trans c2⟩,aB hi' hb⟩⟩
   · refine ⟨_,rfl,?_,hc.trans c2⟩
     have:FF ns=true:=List.any_eq_true.2 ⟨s,hm,h⟩
     rw [this];simp
   · rw [List.take_add_one,hs]
     unfold FF at hno ⊢
     rw [List.any_append,hno]
     simpa using h
 · have hi':i=n:=by simp at h;omega
   rw [hi',←hln,List.take_length] at hno
   exact ⟨_,rfl,by rw [hno];simp,hc⟩

theorem mo (h:ah w0 [] w gd ps m N) (hT:jr w0) (hE:rV w0):Calls Tryz.prog 140 #[plV gd] w fun e w'=>e=.returned (.bool (FF (cw m)))∧Chg [] w w':=by
 apply kW
 obtain ⟨g2,w1,r1,k1⟩:=(St.start w).b7 (P:=Tryz.prog) 142 [pV gd]
 have k1:St w [] w1 [.arr g2 142 [pV gd]]:=k1
 refine ⟨g2,w1,r1,_,_,k1.ldL (i:=0) (l:=[pV gd]) rfl (pdA _) rfl rfl,(mz (h.same k1.chg)).mono ?_⟩
 rintro e w2 ⟨la,lc,rfl,k2⟩
 have hnl:(cw m).length≤4096:=by have:=h.wf.dZ.len;simpa [cw] using this
 have hc2:=h.chg.trans (k1.chg.trans k2.chg)
 refine ⟨_,_,_,rfl,?_⟩
 apply gw
 refine (Ew la _ lc (cw m) w2 (fun x hx=>Ks h.wf hx) (hT.an hc2) (hE.an hc2) (k2.rd (i:=0) rfl) (by omega)).mono ?_
 rintro e w3 ⟨t,rfl,ht,c3⟩
 exact ⟨t,rfl,_,rfl,by rw [ht],(k1.chg.trans k2.chg).trans c3⟩

def dX (ns:List Nm) (m:af):af:=ns.foldl (fun m n=>(bf n m).1) m
theorem yA:∀(ns:List Nm) (m:af),Cnt ns.length m (dX ns m)
 | [],m=>Cnt.refl m
 | n::ns,m=>((lR n m).trans (yA ns (bf n m).1)).mono (by simp;omega)
theorem Al (a:Option Addr) (n c:Nat) (ns:List Nm) (h:ah w0 [] w gd ps m N) (hr:∀w',Chg [] w0 w'→St w0 [] w' N→Rd w' a n c 1 (ns.map aJ)) (hn:n≤1000000) (hb:B63 (ns.length+1) m):
   Calls Tryz.prog 136 #[plV gd,.slice a n c] w fun e w'=>e=.returned (.tuple #[])∧ah w0 [] w' gd ps (dX ns m) N:=by
 have hln:ns.length=n:=by have:=(hr w h.chg h.rest).len;simpa using this
 apply ru
 obtain ⟨g2,w1,r1,k1⟩:=(St.start w).b7 (P:=Tryz.prog) 142 [pV gd]
 have k1:St w [] w1 [.arr g2 142 [pV gd]]:=k1
 have h1:=h.dh k1
 have top0:∀ {w':World} {m':af},ah w0 [] w' gd ps m' (N++ [.arr g2 142 [pV gd]])→Rd w' a n c 1 (ns.map aJ):=fun h'=>hr _ h'.chg h'.cut.rest
 refine ⟨g2,w1,r1,fun y w'=>∃i:Nat,y=(i:Int)∧i≤n∧ah w0 [] w' gd ps (dX (ns.take i) m) (N++ [.arr g2 142 [pV gd]]),fun y _=>n-y.toNat,⟨0,rfl,by omega,by rw [List.take_zero];exact h1⟩,?_⟩
 rintro y w2 ⟨i,rfl,hi,h2⟩
 refine ⟨fun hlt=>?_,fun hge=>?_⟩
 · have hi':i<n:=by simp at hlt;omega
   obtain ⟨s,hs⟩:∃s,ns[i]?=some s:=⟨_,List.getElem?_eq_getElem (by omega)⟩
   obtain ⟨b,o,ha,hcl⟩:=(top0 h2).cells.at_ (i:=i) (v:=aJ s) (by rw [List.getElem?_map,hs];rfl)
   have e1:dX (ns.take (i+1)) m=(bf s (dX (ns.take i) m)).1:=by rw [List.take_add_one,hs];simp [dX]
   have hbm:B63 1 (dX (ns.take i) m):=by
     refine B63.of (j:=i) ?_ ((yA (ns.take i) m).mono (by simp;omega))
     exact ⟨by have:=hb.1;omega,by have:=hb.2;omega⟩
   refine ⟨b,o,ha,by omega,by omega,_,by rw [Int.toNat_natCast,Nat.mul_one];exact ld1 (DD _) hcl,_,h2.top.ldA (i:=0) (l:=[pV gd]) rfl (plA _) (plS _) rfl,(yd s h2).mono ?_⟩
   rintro e w3 ⟨rfl,c3⟩
   have h3:=h2.same c3
   refine ⟨_,rfl,fun w'=>ah w0 [] w' gd ps (dX (ns.take (i+1)) m) (N++ [.arr g2 142 [pV gd]]),⟨fun hin=>?_,fun hout=>?_⟩,fun w5 h5=>⟨⟨i+1,aq hi' (by omega),by omega,h5⟩,aB hi' (by omega)⟩⟩
   · refine ⟨_,_,h3.top.ldL (i:=0) (l:=[pV gd]) rfl (pdA _) rfl rfl,(lC s h3 hbm.s hbm.c).mono ?_⟩
     rintro e w4 ⟨rfl,h4⟩
     refine ⟨_,rfl,?_⟩
     have:bf s (dX (ns.take i) m)=aL (dX (ns.take i) m) s:=by unfold bf;rw [hin];rfl
     rw [e1,this]
     exact h4
   · have:bf s (dX (ns.take i) m)=(dX (ns.take i) m,none):=by unfold bf;rw [hout];rfl
     rw [e1,this]
     exact h3
 · have hi':i=n:=by simp at hge;omega
   rw [hi',←hln,List.take_length] at h2
   exact ⟨rfl,h2.cut⟩
end

end Go.Proofs.YtpmhjnhgpplmnaaGreatDoor
end

section
namespace Go.Proofs.YtpmhjnhgpplmnaaGreatDoor
open Go Go.Proofs.YtpmhjnhgpplmnaaGreatDoor.Sx
set_option maxRecDepth 100000
variable (w:World) (R:Ending→World→Prop)
theorem zV (a:Array Value) (h:Bxz 100 (.agg a) w fun a b=>Liz 3 a 32 b fun c=>Ifz (decide (c≥(0:Int))) (Liz 3 a 32 b (fun c=>Ifz (decide (c≤(1099511627776:Int))) (Liz 3 a 33 b (fun c=>Ifz (decide (c≥(0:Int))) (Liz 3 a 34 b (fun a=>R (.returned (.bool (decide (a≥(0:Int))))) b)) (R (.returned (.bool false)) b))) (R (.returned (.bool false)) b))) (R (.returned (.bool false)) b)):Calls Tryz.prog 182 #[.agg a] w R:=aa 0x1f201a20520e03128ce0311bce0316cd031c017c Tryz.func182 (by kernel_rfl) h
theorem uD (a b:Array Value) (h:Bxz 87 (.agg a) w fun a c=>Bxz 87 (.agg b) c fun b c=>0≤(32:Int)∧(32:Int)≤32∧0≤(32:Int)∧(32:Int)≤32∧Ciz 217 #[.slice (some ⟨a,0,none⟩) 32 32,.slice (some ⟨b,0,none⟩) 32 32] c.drew fun a b=>R (.returned (.int .i64 a)) b):Calls Tryz.prog 219 #[.agg a,.agg b] w R:=aa 0x401003101824611601420177c Tryz.func219 (by kernel_rfl) h
theorem B5 (h:∃a b,(Instr.makeMap 270 none).run Tryz.prog w=.ok a b∧Buz 272 #[(0,a)] b fun a=>Bxz 272 (.agg a) b fun a b=>R (.returned (.pointer (some ⟨a,0,none⟩))) b):Calls Tryz.prog 142 #[] w R:=aa 0x178395c1d Tryz.func142 (by kernel_rfl) h
theorem rA (a b:Nat) (c:Option Addr) (d e:Nat) (h:Cbz 180 #[.slice c d e,.func (.func 181) #[] #[]] w fun e f=>Ifz e (R (.returned (.iface 65 (.int .i64 28))) f) (∃(e:Int→World→Prop) (g:Int→World→Nat),e 0 f∧∀f h,e f h→Ifz (decide (f<(d:Int))) (∃i j,c=some ⟨i,j,none⟩∧0≤f∧f<(d:Int)∧Laz 100 i (j+Int.toNat f*35) h fun c=>Alz 100 h fun d i=>Stz 100 d 0 (.agg c) i fun c=>∃i:World→Prop,i c.drew∧∃j,(∀c,i c→(Instr.loadAt 270 (.pointer (some ⟨a,b,none⟩))).run Tryz.prog c=.ok j c)∧∃a,(∀b,i b→LdQ 87 d 0 (.agg a) b)∧∃b,(∀a,i a→LdQ 100 d 0 (.agg b) a)∧∃d,(Instr.mapUpdate 270 j (.agg a) (.agg b)).run Tryz.prog c.drew=.ok () d∧∃a:World→Prop,(∀b,a b→i b)∧a d∧e (IntKind.wrap .i64 (f+1)) d∧g (IntKind.wrap .i64 (f+1)) d<g f h) (R (.returned .nilIface) h))):Calls Tryz.prog 86 #[.pointer (some ⟨a,b,none⟩),.slice c d e] w R:=aa 0x1d2b004748638539334210425067838c8200321d0112811c28162983d2002d30141442c21d Tryz.func86 (by kernel_rfl) h
theorem o9 (a:Array Value) (h:Bxz 100 (.agg a) w fun a b=>Laz 100 a 0 b fun a=>Cbz 182 #[.agg a] b fun a b=>R (.returned (.bool (!a))) b):Calls Tryz.prog 181 #[.agg a] w R:=aa 0xd41483c017c Tryz.func181 (by kernel_rfl) h
theorem qh (a b:Nat) (c:Option Addr) (d e:Nat) (h:∃f,(Instr.loadAt 270 (.pointer (some ⟨a,b,none⟩))).run Tryz.prog w=.ok f w∧∃g h,(Instr.range 270 f).run Tryz.prog w=.ok g h∧∃(f:World→Prop) (i:World→Nat),f h∧∀h,f h→∃(j:Bool) (k:List Value) (l:World),(Instr.next g false 0).run Tryz.prog h=.ok (.tuple ⟨.bool j::k⟩) l∧Ifz j (∃j k m,(Instr.entry g).run Tryz.prog l=.ok (.tuple #[.agg j,.agg k]) m∧Alz 87 m fun g l=>Alz 100 l fun l m=>Stz 87 g 0 (.agg j) m fun j=>Stz 100 l 0 (.agg k) j fun j=>Liz 3 l 32 j fun k=>Cbz 135 #[.slice c d e,.int .i64 k] j fun c d=>∃e:World→Prop,Ifz c (∃c:World→Prop,c d.drew∧∃f,(∀d,c d→(Instr.loadAt 270 (.pointer (some ⟨a,b,none⟩))).run Tryz.prog d=.ok f d)∧∃a,(∀b,c b→LdQ 87 g 0 (.agg a) b)∧∃b g,(Builtin.delete_ #[270,87] 0 #[f,.agg a]).run Tryz.prog d.drew=.ok b g∧∃a:World→Prop,(∀b,a b→c b)∧a g∧e g) (e d)∧∀a,e a→f a∧i a<i h) (R (.returned (.tuple #[])) l)):Calls Tryz.prog 131 #[.pointer (some ⟨a,b,none⟩),.slice c d e] w R:=aa 0x925484393321032530052e1a041403dc06677d8829ac8003201aac001e1d2429809593ec072d2 Tryz.func131 (by kernel_rfl) h
theorem qp (a b:Nat) (c:Array Value) (h:Bxz 87 (.agg c) w fun c d=>Alz 100 d fun d e=>∃f:Nat→Nat→Bool→World→Prop,(∃d:World→Prop,d e.drew∧∃g,(∀c,d c→(Instr.loadAt 270 (.pointer (some ⟨a,b,none⟩))).run Tryz.prog c=.ok g c)∧∃a,(∀b,d b→LdQ 87 c 0 (.agg a) b)∧(∃b c h,(Instr.lookup 270 g (.agg a) true).run Tryz.prog e.drew=.ok (.tuple #[.agg b,.bool c]) h∧∃a:World→Prop,(∀b,a b→d b)∧a h∧Alz 100 h fun d e=>∃g:World→Prop,(∀b,g b→a b)∧g e∧Stz 100 d 0 (.agg b) e fun a=>f d 0 c a)∧Alz 100 e.drew fun b c=>∃e:World→Prop,(∀a,e a→d a)∧e c∧∃d h i,(Instr.lookup 270 g (.agg a) true).run Tryz.prog c=.ok (.tuple #[.agg d,.bool h]) i∧∃a:World→Prop,(∀b,a b→e b)∧a i∧Stz 100 b 0 (.agg d) i fun a=>f b 0 h a)∧∀a b c e,f a b c e→Laz 100 a b e fun a=>Stz 100 d 0 (.agg a) e fun a=>∃b,(loadVar 100 ⟨d,0,none⟩).run Tryz.prog a=.ok b a∧R (.returned (.tuple #[b,.bool c])) a):Calls Tryz.prog 137 #[.pointer (some ⟨a,b,none⟩),.agg c] w R:=aa 0x16183c21a272001b141a4187632482954319001b141a43194187632482956843933210325462261191b262a2072d20177c Tryz.func137 (by kernel_rfl) h
theorem qX (a b:Nat) (h:∃c,(Instr.loadAt 270 (.pointer (some ⟨a,b,none⟩))).run Tryz.prog w=.ok c w∧∃a b,(Instr.range 270 c).run Tryz.prog w=.ok a b∧∃(c:Option Addr→Nat→Nat→World→Prop) (d:Option Addr→Nat→Nat→World→Nat),c none 0 0 b∧∀b e f g,c b e f g→∃(h:Bool) (i:List Value) (j:World),(Instr.next a false 0).run Tryz.prog g=.ok (.tuple ⟨.bool h::i⟩) j∧Ifz h (∃h i k,(Instr.entry a).run Tryz.prog j=.ok (.tuple #[h,.agg i]) k∧Alz 100 k fun a h=>Stz 100 a 0 (.agg i) h fun h=>Laz 100 a 0 h fun a=>Bsz 48 1 #[(0,.agg a)] h fun a h i j=>Apz 48 (.slice b e f) (.slice a h i) j fun a h i j=>c a h i j∧d a h i j<d b e f g) (Calls Tryz.prog 168 #[.slice b e f,.func (.func 218) #[] #[]] j (fun a c=>a=.returned (.tuple #[])∧R (.returned (.slice b e f)) c))):Calls Tryz.prog 121 #[.pointer (some ⟨a,b,none⟩)] w R:=aa 0x2d0041c017575831106718929ac8003201aac71131181d151339809593ec21d072d21d Tryz.func121 (by kernel_rfl) h
theorem oG (a b:Array Value) (h:Bxz 100 (.agg a) w fun a c=>Bxz 100 (.agg b) c fun b c=>Laz 87 a 0 c fun a=>Laz 87 b 0 c fun b=>Ciz 219 #[.agg a,.agg b] c fun a b=>R (.returned (.int .i64 a)) b):Calls Tryz.prog 218 #[.agg a,.agg b] w R:=aa 0x1014831831c0177c Tryz.func218 (by kernel_rfl) h
theorem uL (a:Option Addr) (b c:Nat) (d:Option Addr) (e f:Nat) (h:∃g h,(callFunc 289 #[.slice a b c,.slice d e f]).run Tryz.prog w=.ok (.value (.int .i64 g)) h∧R (.returned (.int .i64 g)) h):Calls Tryz.prog 217 #[.slice a b c,.slice d e f] w R:=aa 0x10dadc1d Tryz.func217 (by kernel_rfl) h
theorem fQ (a:Option Addr) (b c:Nat) (d:Value) (h:Ciz 261 #[.slice a b c,d] w fun a b=>R (.returned (.bool (decide (a≥(0:Int))))) b):Calls Tryz.prog 180 #[.slice a b c,d] w R:=aa 0xd014dc1d Tryz.func180 (by kernel_rfl) h
theorem gG (a:Option Addr) (b c:Nat) (d:Value) (h:∃(c:Int→World→Prop) (e:Int→World→Nat),c 0 w∧∀f g,c f g→Ifz (decide (f<(b:Int))) (∃h i,a=some ⟨h,i,none⟩∧0≤f∧f<(b:Int)∧Laz 100 h (i+Int.toNat f*35) g fun a=>∃(b:Nat) (h:List Value),d=.func (.func b) #[] ⟨h⟩∧gN Tryz.prog b=true∧Calls Tryz.prog b (([.agg a]:List Value)++h).toArray g fun a b=>∃d,a=.returned (.bool d)∧Ifz d (R (.returned (.int .i64 f)) b) (c (IntKind.wrap .i64 (f+1)) b∧e (IntKind.wrap .i64 (f+1)) b<e f g)) (R (.returned (.int .i64 (-1))) g)):Calls Tryz.prog 261 #[.slice a b c,d] w R:=aa 0x1d2b002d3041ba838ec2d8200321d0111811b18242983d21d Tryz.func261 (by kernel_rfl) h
theorem ku (a:Option Addr) (b c:Nat) (d:Int) (h:Ciz 222 #[.slice a b c,.int .i64 d] w fun a b=>R (.returned (.bool (decide (a≥(0:Int))))) b):Calls Tryz.prog 135 #[.slice a b c,.int .i64 d] w R:=aa 0xd014dc1d Tryz.func135 (by kernel_rfl) h
theorem mu (a:Option Addr) (b c:Nat) (d:Int) (h:∃(c:Int→World→Prop) (e:Int→World→Nat),c 0 w∧∀f g,c f g→Ifz (decide (f<(b:Int))) (∃h i,a=some ⟨h,i,none⟩∧0≤f∧f<(b:Int)∧Liz 3 h (i+Int.toNat f*1) g fun a=>Ifz (d==a) (R (.returned (.int .i64 f)) g) (c (IntKind.wrap .i64 (f+1)) g∧e (IntKind.wrap .i64 (f+1)) g<e f g)) (R (.returned (.int .i64 (-1))) g)):Calls Tryz.prog 222 #[.slice a b c,.int .i64 d] w R:=aa 0x1d2b002d301038ec2d8200321d0111811b18242983d21d Tryz.func222 (by kernel_rfl) h
end Go.Proofs.YtpmhjnhgpplmnaaGreatDoor
end

section
namespace Go.Proofs.YtpmhjnhgpplmnaaGreatDoor
open Go Sx
set_option maxRecDepth 8000

def cmpL (l m:List UInt8):Int:=match (List.range (min l.length m.length)).find? fun i=>l.getD i 0 != m.getD i 0 with
 | some i=>if l.getD i 0<m.getD i 0 then-1 else 1
 | none=>if l.length<m.length then-1 else if l.length>m.length then 1 else 0

theorem D9:∀l m,cmpL l m=gP l m
 | [],[]=>by simp [cmpL,gP,lexLt]
 | [],b::m=>by simp [cmpL,gP,lexLt]
 | a::l,[]=>by simp [cmpL,gP,lexLt]
 | a::l,b::m=>by
   have ih:=D9 l m
   have e:min (a::l).length (b::m).length=min l.length m.length+1:=by simp only [List.length_cons];omega
   by_cases h:a=b
   · subst h
     have h1:gP (a::l) (a::m)=gP l m:=by simp [gP,lexLt]
     rw [h1,←ih]
     unfold cmpL
     rw [e,List.range_succ_eq_map,List.find?_cons]
     simp only [List.getD_cons_zero,bne_self_eq_false,List.find?_map]
     have h2:((fun i=>(a::l).getD i 0 != (a::m).getD i 0)∘Nat.succ)=fun i=>l.getD i 0 != m.getD i 0:=by
       funext i;simp only [Function.comp_apply,Nat.succ_eq_add_one,List.getD_cons_succ]
     rw [h2]
     cases (List.range (min l.length m.length)).find? fun i=>l.getD i 0 != m.getD i 0 with
     | none=>simp
     | some i=>simp only [Option.map_some,Nat.succ_eq_add_one,List.getD_cons_succ]
   · unfold cmpL
     rw [e,List.range_succ_eq_map,List.find?_cons]
     have hb:(a != b)=true:=by simpa using h
     simp only [List.getD_cons_zero,hb]
     have hn:a.toNat≠b.toNat:=fun e=>h (UInt8.toNat_inj.1 e)
     unfold gP
     simp only [lexLt,UInt8.lt_iff_toNat_lt]
     by_cases hlt:a.toNat<b.toNat
     · simp [hlt]
     · simp [hlt,show b.toNat<a.toNat by omega]

theorem E6 (l m:List UInt8):Extern.BytealgCompare.cmp ⟨l.toArray⟩ ⟨m.toArray⟩=cmpL l m:=by
 have g:∀(q:List UInt8) (i:Nat),(⟨q.toArray⟩:ByteArray)[i]! =q.getD i 0:=by
   intro q i
   by_cases h:i<q.length
   · have h2:i<(⟨q.toArray⟩:ByteArray).size:=by simpa [ByteArray.size] using h
     rw [getElem!_pos _ i h2]
     show (q.toArray)[i]'(by simpa using h)=_
     simp [List.getD,h]
   · have h2:¬i<(⟨q.toArray⟩:ByteArray).size:=by simpa [ByteArray.size] using h
     rw [getElem!_neg _ i h2]
     simp [List.getD,h]
     rfl
 unfold Extern.BytealgCompare.cmp cmpL
 simp only [g,ByteArray.size,List.size_toArray]
 cases List.find? (fun i=>l.getD i 0 != m.getD i 0) (List.range (min l.length m.length))<;>rfl

theorem vo {P:Program} {w:World} {a:Option Addr} {c n:Nat} {l:List UInt8} (hc:Cells w a (bv l)) (hn:l.length=n):(Extern.Bytes.bytesOf (.slice a n c)).run P w=.ok ⟨l.toArray⟩ w:=by
 subst hn
 cases a with
 | none=>
   have hl:l=[]:=by
     rcases hc with h | ⟨b,o,h,_⟩
     · cases l with
       | nil=>rfl
       | cons x y=>simp [bv] at h
     · cases h
   subst hl
   rfl
 | some ad=>
   have h1:∀(j:Nat) (x:Int),(l.map fun b=>(b.toNat:Int))[j]?=some x→w.cell? (ad.add j)=some (.int .u8 x):=by
     intro j x hx
     rw [List.getElem?_map] at hx
     cases hq:l[j]? with
     | none=>rw [hq] at hx;cases hx
     | some y=>
       rw [hq] at hx
       simp only [Option.map_some,Option.some.injEq] at hx
       subst hx
       obtain ⟨b,o,ha,hcell⟩:=hc.at_ (i:=j) (v:=.int .u8 (y.toNat:Int)) (by rw [FU,hq];rfl)
       simp only [Option.some.injEq] at ha
       subst ha
       rw [Addr.add_mid]
       exact hcell
   have:=Lib.run_loadBytesX (P:=P) (w:=w) (l.map fun b=>(b.toNat:Int)) ad .empty h1
   rw [List.length_map] at this
   simp only [Extern.Bytes.bytesOf]
   rw [this]
   have e:Lib.bytesOf (l.map fun b=>(b.toNat:Int))=l:=by
     simp [Lib.bytesOf,Function.comp_def]
   rw [e]
   simp

theorem uh (a a2:Option Addr) (n c n2 c2:Nat) (l m:List UInt8) (w:World) (h1:Cells w a (bv l)) (hl:l.length=n) (h2:Cells w a2 (bv m)) (hm:m.length=n2):
   Calls Tryz.prog 217 #[.slice a n c,.slice a2 n2 c2] w fun e w'=>e=.returned (.int .i64 (gP l m))∧w'=w:=by
 apply uL
 refine ⟨gP l m,w,?_,rfl,rfl⟩
 rw [run_callFunc_extern Tryz.func289 (by kernel_rfl) (by kernel_rfl) (by kernel_rfl) (e:=Extern.BytealgCompare.compare) (by kernel_rfl)]
 have e:Extern.BytealgCompare.compare #[.slice a n c,.slice a2 n2 c2]=(do pure (goInt (Extern.BytealgCompare.cmp (←Extern.Bytes.bytesOf (.slice a n c)) (←Extern.Bytes.bytesOf (.slice a2 n2 c2))))):=rfl
 rw [e]
 simp [vo h1 hl,vo h2 hm,E6,D9,goInt]

def Gr (w w':World):Prop:=∃q os,w'=Sort.grow (w.drewN q) os
theorem Gr.trans {a b c:World} (h:Gr a b) (k:Gr b c):Gr a c:=by
 obtain ⟨q,os,rfl⟩:=h
 obtain ⟨q2,os2,rfl⟩:=k
 refine ⟨q+q2,os++os2,?_⟩
 simp [Sort.grow,World.drewN,Nat.add_assoc,Array.append_assoc]
theorem Gr.alloc (w:World) (o:Obj):Gr w (w.alloc o):=⟨0, #[o],by rw [Sort.alloc_eq_grow];simp [World.drewN]⟩
theorem Gr.drew (w:World):Gr w w.drew:=⟨1, #[],by rw [Sort.grow_empty];rfl⟩

theorem Lv {P:Program} (w:World) (T:TypeId) (l:List Value):(Instr.box T (.agg l.toArray)).run P w=.ok (.pointer (some ⟨w.heap.size,0,none⟩)) (w.alloc (.cells l.toArray T)):=by simp [Instr.box,newVar,newRow,Value.cells]

theorem KH (l m:List UInt8) (w:World) (hl:l.length=32) (hm:m.length=32):
   Calls Tryz.prog 219 #[.agg (bv l).toArray,.agg (bv m).toArray] w fun e w'=>e=.returned (.int .i64 (gP l m))∧Gr w w':=by
 apply uD
 obtain ⟨g1,w1,r1,h1⟩:=(St.start w).b7 (P:=Tryz.prog) 87 (bv l)
 obtain ⟨g2,w2,r2,h2⟩:=h1.b7 (P:=Tryz.prog) 87 (bv m)
 have e1:=r1.symm.trans (Lv w _ _)
 have e2:=r2.symm.trans (Lv w1 _ _)
 simp only [Result.ok.injEq] at e1 e2
 have hG:Gr w w2:=by rw [e2.2,e1.2];exact (Gr.alloc _ _).trans (Gr.alloc _ _)
 have h2d:=h2.drew
 refine ⟨g1,w1,r1,g2,w2,r2,by omega,by omega,by omega,by omega,(uh _ _ 32 32 32 32 l m w2.drew (h2d.rdA (i:=0) (n:=32) (l:=bv l) rfl (by simp [hl])).cells hl (h2d.rdA (i:=1) (n:=32) (l:=bv m) rfl (by simp [hm])).cells hm).mono ?_⟩
 rintro e w3 ⟨rfl,rfl⟩
 exact ⟨_,rfl,rfl,hG.trans (Gr.drew _)⟩

theorem JB {w0 w:World} {X:List Nat} {M:List Res} (h:St w0 X w M) {i g:Nat} {T:TypeId} {r:bq} (hi:M[i]?=some (.arr g T (aC r))):(Instr.loadAt 87 (.pointer (some ⟨g,0,none⟩))).run Tryz.prog w=.ok (.agg (bv r.id).toArray) w:=by
 have rng:=h.kP hi
 refine A5 (fun j v hj=>rng j v ?_) (DQ _) (zz _) (by simp [r.idl])
 rw [aC,List.getElem?_append_left (List.getElem?_eq_some_iff.1 hj).1];exact hj

theorem NL (x y:bq) (w:World):Calls Tryz.prog 218 #[.agg (aC x).toArray,.agg (aC y).toArray] w fun e w'=>e=.returned (.int .i64 (gP x.id y.id))∧Gr w w':=by
 apply oG
 obtain ⟨g1,w1,r1,h1⟩:=(St.start w).b7 (P:=Tryz.prog) 100 (aC x)
 obtain ⟨g2,w2,r2,h2⟩:=h1.b7 (P:=Tryz.prog) 100 (aC y)
 have e1:=r1.symm.trans (Lv w _ _)
 have e2:=r2.symm.trans (Lv w1 _ _)
 simp only [Result.ok.injEq] at e1 e2
 have hG:Gr w w2:=by rw [e2.2,e1.2];exact (Gr.alloc _ _).trans (Gr.alloc _ _)
 refine ⟨g1,w1,r1,g2,w2,r2,_,JB h2 (i:=0) rfl,_,JB h2 (i:=1) rfl,(KH x.id y.id w2 x.idl y.idl).mono ?_⟩
 rintro e w3 ⟨rfl,hg⟩
 exact ⟨_,rfl,rfl,hG.trans hg⟩

end Go.Proofs.YtpmhjnhgpplmnaaGreatDoor
end

section
namespace Go.Proofs.YtpmhjnhgpplmnaaGreatDoor.Sx
open Go
set_option maxRecDepth 8000

section
variable {P:Program} {T e n:Nat} {k:IntKind}

theorem AO (hT:P.underlying T=some (.array n e)) (he:P.underlying e=some (.int k)) (hs:∀w,(sizeOf e).run P w=.ok 1 w) (hA:∀w,(isAgg e).run P w=.ok false w) (l:List Int) (hl:l.length=n) (em:Bool) (d:Nat) (w:World):
   (Instr.checkKey em (d+2) T (.agg (l.map (Value.int k)).toArray)).run P w=.ok () w:=by
 have hp:∀(i:Nat) (w:World),i<n→(part e (l.map (Value.int k)).toArray i).run P w=.ok (.int k (l.getD i 0)) w:=by
   intro i w hi
   simp [part,hA,hs,show i<l.length by omega]
 have hc:∀(a:Int) (w:World),(Instr.checkKey em (d+1) e (.int k a)).run P w=.ok () w:=by
   intro a w
   simp [Instr.checkKey,run_underlying he]
 have key:∀(js:List Nat) (w:World),(∀j∈js,j<n)→(forIn (m:=Sem) js PUnit.unit fun i (_:PUnit)=>do
     let z ←sizeOf e
     let v ←part e (l.map (Value.int k)).toArray (i*z)
     (fun _=>ForInStep.yield PUnit.unit)<$>Instr.checkKey em (d+1) e v).run P w=.ok PUnit.unit w:=by
   intro js
   induction js with
   | nil=>intro w _;simp
   | cons j js ih=>
     intro w hj
     simp only [List.forIn_cons,Sem.run_bind,hs,Nat.mul_one,hp j w (hj j (by simp)),Result.andThen_ok,map_eq_pure_bind,hc]
     simpa using ih w (fun i hi=>hj i (by simp [hi]))
 have k0:=key (List.range' 0 n) w (by simp [List.mem_range'_1])
 unfold Instr.checkKey
 simp only [Sem.run_bind,run_underlying hT,Result.andThen_ok]
 generalize hq:Instr.checkKey em (d+1)=q at k0 ⊢
 simp at k0 ⊢
 rw [k0]
 rfl

theorem HU (hT:P.underlying T=some (.array n e)) (he:P.underlying e=some (.int k)) (hs:∀w,(sizeOf e).run P w=.ok 1 w) (hA:∀w,(isAgg e).run P w=.ok false w) (l m:List Int) (hl:l.length=n) (hm:m.length=n) (w:World):
   (Op.equal T (.agg (l.map (Value.int k)).toArray) (.agg (m.map (Value.int k)).toArray)).run P w=.ok (decide (l=m)) w:=by
 simp only [Op.equal,show Op.maxDepth=9999+1 from rfl]
 exact Gs (d:=9999) hT hs hA (fun a b w=>by rw [run_equalIn_int w 9998 e k k a b he]) l m hl hm w
end

section
variable {P:Program} {α:Type} {key val:α→Value} {kid:α→List UInt8} {KT:TypeId}

structure rY (P:Program) (KT:TypeId) (n:Nat):Prop where
 und:∃e,P.underlying KT=some (.array n e)∧P.underlying e=some (.int .u8)∧(∀w,(sizeOf e).run P w=.ok 1 w)∧∀w,(isAgg e).run P w=.ok false w

theorem rY.chk {n:Nat} (h:rY P KT n) {id:List UInt8} (hl:id.length=n) (em:Bool) (w:World):(Instr.checkKey em 10000 KT (.agg (bv id).toArray)).run P w=.ok () w:=by
 obtain ⟨e,h1,h2,h3,h4⟩:=h.und
 rw [mY]
 exact AO h1 h2 h3 h4 _ (by simp [hl]) em 9998 w
theorem rY.eql {n:Nat} (h:rY P KT n) {id id2:List UInt8} (hl:id.length=n) (hl2:id2.length=n) (w:World):(Op.equal KT (.agg (bv id).toArray) (.agg (bv id2).toArray)).run P w=.ok (decide (id=id2)) w:=by
 obtain ⟨e,h1,h2,h3,h4⟩:=h.und
 rw [mY,mY]
 have:=HU h1 h2 h3 h4 (id.map fun b=>(b.toNat:Int)) (id2.map fun b=>(b.toNat:Int)) (by simp [hl]) (by simp [hl2]) w
 simpa only [GB] using this

theorem oQ {n:Nat} (h:rY P KT n) {id:List UInt8} (hl:id.length=n) (w:World):∀(L:List MapEntry) (M:List α) (i:Nat),L.map (fun x=>(x.key,x.val))=M.map (fun r=>(Value.agg (bv (kid r)).toArray,val r))→(∀r∈M,(kid r).length=n)→
   (Instr.findAsking KT (.agg (bv id).toArray) L i).run P w=.ok (((M.findIdx? fun r=>kid r==id).bind fun j=>(M[j]?).map fun r=>(i+j,val r))) w
 | [],[],i,_,_=>by simp [Instr.findAsking]
 | [],r::M,i,he,_=>by simp at he
 | x::L,[],i,he,_=>by simp at he
 | x::L,r::M,i,he,hk=>by
   simp only [List.map_cons,List.cons.injEq,Prod.mk.injEq] at he
   obtain ⟨⟨e1,e2⟩,e3⟩:=he
   have ih:=oQ h hl w L M (i+1) e3 fun s hs=>hk s (by simp [hs])
   have hq:=h.eql hl (hk r (by simp)) w
   simp only [Instr.findAsking,Sem.run_bind,e1,hq,Result.andThen_ok,e2]
   by_cases hr:id=kid r
   · simp [hr,List.findIdx?_cons]
   · have hr':¬kid r=id:=fun e=>hr e.symm
     simp only [hr,decide_false,Bool.false_eq_true,if_false,ih,List.findIdx?_cons,beq_iff_eq,hr']
     cases hf:M.findIdx? fun r=>kid r==id with
     | none=>simp
     | some j=>simp [Nat.add_assoc,Nat.add_comm 1]

theorem CE {n:Nat} (h:rY P KT n) {id:List UInt8} (hl:id.length=n) (w:World) {L:List MapEntry} {M:List α} (he:L.map (fun x=>(x.key,x.val))=M.map (fun r=>(Value.agg (bv (kid r)).toArray,val r))) (hk:∀r∈M,(kid r).length=n):
   (Instr.findKey KT (.agg (bv id).toArray) L).run P w=.ok (((M.findIdx? fun r=>kid r==id).bind fun j=>(M[j]?).map fun r=>(j,val r))) w:=by
 obtain ⟨e,h1,h2,h3,h4⟩:=h.und
 have hf:=oQ h hl w L M 0 he hk
 simp only [Nat.zero_add] at hf
 cases L with
 | nil=>
   have hm:M=[]:=by cases M with
     | nil=>rfl
     | cons _ _=>simp at he
   subst hm
   simp [Instr.findKey,Instr.findNow,run_underlying h1]
 | cons x L=>
   simp only [Instr.findKey,Sem.run_bind,run_underlying h1,Result.andThen_ok]
   have:Instr.findNow (.array n e) (.agg (bv id).toArray) (x::L) 0=none:=by simp [Instr.findNow,Instr.sameNow]
   rw [this]
   exact hf

theorem K6 (l:List Int) (k:IntKind):Instr.sameBits 10000 (.agg (l.map (Value.int k)).toArray) (.agg (l.map (Value.int k)).toArray)=true:=by
 have h1:∀x∈(l.map (Value.int k)).zip (l.map (Value.int k)),Instr.sameBits 9999 x.1 x.2=true:=by
   intro x hx
   rw [List.zip_map] at hx
   simp only [List.mem_map] at hx
   obtain ⟨⟨a,b⟩,hab,rfl⟩:=hx
   have e:a=b:=by
     obtain ⟨i,hi⟩:=List.getElem?_of_mem hab
     rw [List.getElem?_zip_eq_some] at hi
     rw [hi.1] at hi
     exact Option.some.inj hi.2
   subst e
   simp [Instr.sameBits]
 rw [show (10000:Nat)=9999+1 from rfl,Instr.sameBits]
 simp only [beq_self_eq_true,Bool.true_and]
 rw [List.all_eq_true]
 intro x hx
 exact h1 x hx


theorem Li {n:Nat} (h:rY P KT n):FX P KT (fun id=>.agg (bv id).toArray) (fun id=>id.length=n):=
 ⟨fun _ hl em w=>h.chk hl em w,fun α val kid L M id hl w he hk=>CE (α:=α) (val:=val) (kid:=kid) h hl w he hk,fun id w=>by
   unfold Instr.keyThatStays
   rw [mY,K6]
   simp⟩

variable {n:Nat} {w:World} {g:Nat} {es:Array MapEntry} {clock:Nat} {M:List α} {mt ET:TypeId}

structure zY (P:Program) (KT:TypeId) (n:Nat) (key:α→Value) (kid:α→List UInt8) (M:List α):Prop where
 eq:rY P KT n
 key:∀r,key r=.agg (bv (kid r)).toArray
 len:∀r∈M,(kid r).length=n

theorem zY.toM (h:zY P KT n key kid M):HI P KT (fun id=>.agg (bv id).toArray) (fun id=>id.length=n) key kid M:=⟨Li h.eq,h.key,h.len⟩

theorem bD.find (hE:bD key val es clock M) (hK:zY P KT n key kid M) {id:List UInt8} (hl:id.length=n) (w:World):(Instr.findKey KT (.agg (bv id).toArray) es.toList).run P w=.ok ((dQ kid M id).map fun p=>(p.1,val p.2)) w:=hE.GM hK.toM hl w

theorem bD.update (hE:bD key val es clock M) (hK:zY P KT n key kid M) (hm:P.underlying mt=some (.map KT ET)) (hg:w.heap[g]?=some (.map es clock)) (r:α) (hr:(kid r).length=n):
   ∃es' clock',(Instr.mapUpdate mt (.map (some g)) (.agg (bv (kid r)).toArray) (val r)).run P w=.ok () (w.putObj g (.map es' clock'))∧bD key val es' clock' (wE kid M r):=hE.wM hK.toM hm hg r hr

theorem bD.delete (hE:bD key val es clock M) (hK:zY P KT n key kid M) (hm:P.underlying mt=some (.map KT ET)) (hg:w.heap[g]?=some (.map es clock)) {id:List UInt8} (hl:id.length=n) (ts:Array TypeId) (hts:ts[0]?=some mt) (ty:TypeId):
   ∃es',(Builtin.delete_ ts ty #[.map (some g),.agg (bv id).toArray]).run P w=.ok (.tuple #[]) (w.putObj g (.map es' clock))∧(∀j r,dQ kid M id=some (j,r)→es'=es.eraseIdxIfInBounds j∧bD key val es' clock (M.eraseIdx j))∧(dQ kid M id=none→es'=es∧bD key val es' clock M):=hE.GD hK.toM hm hg hl ts hts ty

theorem bD.lookup (hE:bD key val es clock M) (hK:zY P KT n key kid M) (hm:P.underlying mt=some (.map KT ET)) (hg:w.heap[g]?=some (.map es clock)) {id:List UInt8} (hl:id.length=n) {z:Value} (hz:∀w,(zeroValue ET).run P w=.ok z w):
   (Instr.lookup mt (.map (some g)) (.agg (bv id).toArray) true).run P w=.ok (.tuple #[((dQ kid M id).map fun p=>val p.2).getD z,.bool (dQ kid M id).isSome]) w:=hE.BF hK.toM hm hg hl hz

end

end Go.Proofs.YtpmhjnhgpplmnaaGreatDoor.Sx
end

section
namespace Go.Proofs.YtpmhjnhgpplmnaaGreatDoor
open Go Sx
set_option maxRecDepth 8000

def iN (r:bq):Bool:=decide (0≤r.pack)&&decide (r.pack≤1099511627776)&&decide (0≤r.at_)&&decide (0≤r.len)
def Eg:Refs→bq→Bool→Refs
 | [],r,done=>if done then [] else [r]
 | s::seg,r,done=>(if !done&& !lexLt s.id r.id then [r] else [])++(if s.id=r.id then [] else [s])++Eg seg r (done|| !lexLt s.id r.id)
def qO (seg:Refs) (r:bq):Refs:=Eg seg r false
def iM (seg refs:Refs):Refs:=refs.foldl qO seg
abbrev Asc (S:Refs):Prop:=gU bq.id S

theorem rF:∀(S:Refs) (r:bq),(∀x∈S,x.id≠r.id)→Eg S r true=S
 | [],_,_=>rfl
 | s::S,r,h=>by
   rw [Eg,Bool.true_or,rF S r fun x hx=>h x (by simp [hx])]
   simp [h s (by simp)]

theorem pg:∀ {S:Refs},Asc S→∀r:bq,∃A B,qO S r=A++r::B∧(S=A++B∨∃y,y.id=r.id∧S=A++y::B)∧(∀x∈A,lexLt x.id r.id=true)∧(∀x∈B,lexLt r.id x.id=true)
 | [],_,r=>⟨[],[],rfl,.inl rfl,by simp,by simp⟩
 | s::S,h,r=>by
   have a:=List.pairwise_cons.1 h
   unfold qO
   rw [Eg]
   cases hlt:lexLt s.id r.id with
   | true=>
     obtain ⟨A,B,h1,h2,h3,h4⟩:=pg a.2 r
     unfold qO at h1
     have hne:s.id≠r.id:=gy hlt
     refine ⟨s::A,B,by simp [hne,h1],?_,?_,h4⟩
     · rcases h2 with h2 | ⟨y,hy,h2⟩
       · left;rw [h2];rfl
       · right;exact ⟨y,hy,by rw [h2];rfl⟩
     · intro x hx
       rcases List.mem_cons.1 hx with rfl | hx
       · exact hlt
       · exact h3 x hx
   | false=>
     by_cases he:s.id=r.id
     · have hS:∀x∈S,lexLt r.id x.id=true:=fun x hx=>by rw [←he];exact a.1 x hx
       refine ⟨[],S,?_,.inr ⟨s,he,rfl⟩,by simp,hS⟩
       simp only [Bool.not_false,Bool.true_and,Bool.false_or,if_true,he]
       rw [rF S r fun x hx=>(gy (hS x hx)).symm]
       simp
     · have hrs:lexLt r.id s.id=true:=by
         cases h2:lexLt r.id s.id with
         | true=>rfl
         | false=>exact absurd (sC _ _ hlt h2) he
       have hS:∀x∈S,lexLt r.id x.id=true:=fun x hx=>lex_trans _ _ _ hrs (a.1 x hx)
       refine ⟨[],s::S,?_,.inl rfl,by simp,?_⟩
       · simp only [Bool.not_false,Bool.true_and,Bool.false_or,if_true,if_neg he]
         rw [rF S r fun x hx=>(gy (hS x hx)).symm]
         simp
       · intro x hx
         rcases List.mem_cons.1 hx with rfl | hx
         · exact hrs
         · exact hS x hx

theorem Au {A B:Refs} {r:bq} (hA:Asc A) (hB:Asc B) (h1:∀x∈A,lexLt x.id r.id=true) (h2:∀x∈B,lexLt r.id x.id=true):Asc (A++r::B):=by
 refine List.pairwise_append.2 ⟨hA,List.pairwise_cons.2 ⟨h2,hB⟩,fun x hx y hy=>?_⟩
 rcases List.mem_cons.1 hy with rfl | hy
 · exact h1 x hx
 · exact lex_trans _ _ _ (h1 x hx) (h2 y hy)

theorem rX {S:Refs} (h:Asc S) (r:bq):Asc (qO S r):=by
 obtain ⟨A,B,h1,h2,h3,h4⟩:=pg h r
 rw [h1]
 rcases h2 with h2 | ⟨y,hy,h2⟩
 · rw [h2] at h
   have:=List.pairwise_append.1 h
   exact Au this.1 this.2.1 h3 h4
 · rw [h2] at h
   have:=List.pairwise_append.1 h
   exact Au this.1 (List.pairwise_cons.1 this.2.1).2 h3 h4

theorem GF:∀ {refs S:Refs},Asc S→Asc (iM S refs)
 | [],_,h=>h
 | r::refs,S,h=>by rw [iM,List.foldl_cons];exact GF (refs:=refs) (rX h r)

structure nA (M S:Refs):Prop where
 perm:M.Perm S
 asc:Asc S

theorem nA.nil:nA [] []:=⟨List.Perm.refl _,List.Pairwise.nil⟩

theorem nA.upd {M S:Refs} (h:nA M S) (r:bq):nA (wE bq.id M r) (qO S r):=by
 refine ⟨?_,rX h.asc r⟩
 obtain ⟨A,B,h1,h2,h3,h4⟩:=pg h.asc r
 rw [h1]
 unfold wE
 cases hf:dQ bq.id M r.id with
 | none=>
   have hn:=kS hf
   rcases h2 with h2 | ⟨y,hy,h2⟩
   · have hp:=h.perm
     rw [h2] at hp
     exact (List.perm_append_singleton r M).trans ((hp.cons r).trans List.perm_middle.symm)
   · have:y∈M:=h.perm.mem_iff.2 (by rw [h2];simp)
     exact absurd hy (hn y this)
 | some p=>
   obtain ⟨j,y⟩:=p
   obtain ⟨hj,hy⟩:=fm hf
   have hyS:y∈S:=h.perm.mem_iff.1 (List.mem_of_getElem? hj)
   have hjl:=(List.getElem?_eq_some_iff.1 hj).1
   have hM:M=M.take j++y::M.drop (j+1):=by
     have e:M[j]=y:=(List.getElem?_eq_some_iff.1 hj).2
     rw [←e,←List.drop_eq_getElem_cons hjl,List.take_append_drop]
   have hset:M.set j r=M.take j++r::M.drop (j+1):=List.set_eq_take_append_cons_drop .. |>.trans (by rw [if_pos hjl])
   have key:S=A++y::B:=by
     rcases h2 with h2 | ⟨y',hy',h2⟩
     · exfalso
       rw [h2] at hyS
       rcases List.mem_append.1 hyS with hq | hq
       · exact gy (h3 y hq) hy
       · exact gy (h4 y hq) hy.symm
     · have:y=y':=uZ h.asc hyS (by rw [h2];simp) (hy.trans hy'.symm)
       rw [this];exact h2
   have hp:=h.perm
   rw [hM,key] at hp
   have h5:(M.take j++M.drop (j+1)).Perm (A++B):=(List.perm_middle.symm.trans (hp.trans List.perm_middle)).cons_inv
   show (M.set j r).Perm (A++r::B)
   rw [hset]
   exact List.perm_middle.trans ((h5.cons r).trans List.perm_middle.symm)

theorem nA.sorted {M S l:Refs} (h:nA M S) (hp:l.Perm M) (hs:l.Pairwise fun x y=>lexLt y.id x.id=false):l=S:=by
 have hpS:=hp.trans h.perm
 have hnS:S.Pairwise fun x y=>x.id≠y.id:=h.asc.imp fun h=>gy h
 have hnl:l.Pairwise fun x y=>x.id≠y.id:=hnS.perm hpS.symm fun h=>h.symm
 have ha:Asc l:=by
   have:=List.pairwise_and_iff.2 ⟨hs,hnl⟩
   refine this.imp ?_
   rintro x y ⟨h1,h2⟩
   cases h3:lexLt x.id y.id with
   | true=>rfl
   | false=>exact absurd (sC _ _ h3 h1) h2
 exact DI ha h.asc fun x=>hpS.mem_iff

def findF (S:Refs) (id:List UInt8):Option bq:=S.find? fun r=>r.id==id
theorem nA.find {M S:Refs} (h:nA M S) (id:List UInt8):(dQ bq.id M id).map (·.2)=findF S id:=by
 cases hf:dQ bq.id M id with
 | none=>
   have hn:=kS hf
   symm
   rw [Option.map_none,findF,List.find?_eq_none]
   intro r hr
   have:=hn r (h.perm.mem_iff.2 hr)
   simpa using this
 | some p=>
   obtain ⟨j,y⟩:=p
   obtain ⟨hj,hy⟩:=fm hf
   have hyS:y∈S:=h.perm.mem_iff.1 (List.mem_of_getElem? hj)
   rw [Option.map_some]
   cases hq:findF S id with
   | none=>
     rw [findF,List.find?_eq_none] at hq
     exact absurd (by simpa using hy) (hq y hyS)
   | some z=>
     have h1:=List.find?_some hq
     have h2:=List.mem_of_find?_eq_some hq
     simp only [beq_iff_eq] at h1
     rw [uZ h.asc hyS h2 (hy.trans h1.symm)]

theorem HM {es:Array MapEntry} {seen:Array Nat} {e:MapEntry} (hn:(es.toList.map (·.born)).Nodup) (he:e∈(leftOf es seen).toList):(leftOf es seen).toList.Perm (e::(leftOf es (seen.push e.born)).toList):=by
 have key:∀(L:List MapEntry),(L.map (·.born)).Nodup→e∈L→L.Perm (e::L.filter fun x=>x.born≠e.born):=by
   intro L
   induction L with
   | nil=>intro _ h;simp at h
   | cons x L ih=>
     intro hn hm
     rw [List.map_cons,List.nodup_cons] at hn
     rcases List.mem_cons.1 hm with rfl | hm
     · have hL:L.filter (fun x=>decide (x.born≠e.born))=L:=List.filter_eq_self.2 fun y hy=>by
         simp only [ne_eq,decide_eq_true_eq]
         exact fun h=>hn.1 (List.mem_map.2 ⟨y,hy,h⟩)
       rw [List.filter_cons,if_neg (by simp),hL]
     · have hx:x.born≠e.born:=fun h=>hn.1 (List.mem_map.2 ⟨e,hm,h.symm⟩)
       rw [List.filter_cons,if_pos (by simpa using hx)]
       exact ((ih hn.2 hm).cons x).trans (List.Perm.swap _ _ _)
 have hsub:((leftOf es seen).toList.map (·.born)).Nodup:=by
   rw [leftOf,Array.toList_filter]
   exact hn.sublist ((List.filter_sublist).map _)
 have:=key _ hsub he
 refine this.trans (List.Perm.of_eq ?_)
 congr 1
 rw [leftOf,leftOf,Array.toList_filter,Array.toList_filter,List.filter_filter]
 apply List.filter_congr
 intro x _
 simp only [Array.contains_push,ne_eq]
 by_cases h2:x.born=e.born<;>cases h1:seen.contains x.born<;>simp [h1,h2]

end Go.Proofs.YtpmhjnhgpplmnaaGreatDoor
end

section
namespace Go.Proofs.YtpmhjnhgpplmnaaGreatDoor
open Go Sx
set_option maxRecDepth 8000

def kyV (r:bq):Value:=.agg (bv r.id).toArray
def vlV (r:bq):Value:=.agg (aC r).toArray
theorem Mm:rY Tryz.prog 87 32:=⟨5,Tryz.underlying87,bE,fun w=>Tryz.sizeOf5 w,fun w=>Tryz.isAgg5 w⟩
theorem MC (M:Refs):zY Tryz.prog 87 32 kyV bq.id M:=⟨Mm,fun _=>rfl,fun r _=>r.idl⟩
theorem Kz:Tryz.prog.underlying 270=some (.map 87 100):=Tryz.underlying270
theorem mpA (w:World):(isAgg 270).run Tryz.prog w=.ok false w:=Tryz.isAgg270 w
section
variable {w0 w:World} {X:List Nat} {N:List Res}

theorem Rd.N7 {w w':World} {g:Nat} {o:Obj} {a:Option Addr} {n c sz:Nat} {cs:List Value} (h:Rd w a n c sz cs) (hg:w.heap[g]?=some o) (ho:∀c T fr,o≠ .cells c T fr) (hc:Chg [g] w w'):Rd w' a n c sz cs:=by
 refine ⟨?_,h.len,h.le,h.nil⟩
 rcases h.cells with h0 | ⟨b,f,ha,hr⟩
 · exact .inl h0
 · refine .inr ⟨b,f,ha,fun j v hv=>?_⟩
   have h1:=hr j v hv
   by_cases hb:b=g
   · subst hb
     exfalso
     unfold World.cell? at h1
     simp only [hg] at h1
     cases o with
     | cells c' T fr=>exact ho c' T fr rfl
     | _=>simp at h1
   · rw [←h1]
     exact World.cell?_of_block (hc.block b (World.block_lt_of_cell? w _ h1) (by simpa using hb))

theorem II (r:bq) (w:World):Calls Tryz.prog 182 #[.agg (aC r).toArray] w fun e w'=>e=.returned (.bool (iN r))∧Chg [] w w':=by
 apply zV
 obtain ⟨g1,w1,r1,h1⟩:=(St.start w).b7 (P:=Tryz.prog) 100 (aC r)
 obtain ⟨f1,f2,f3⟩:=u6 h1 (i:=0) rfl
 refine ⟨g1,w1,r1,_,f1,fun h=>⟨_,f1,fun h2=>⟨_,f2,fun h3=>⟨_,f3,?_,h1.chg⟩,fun h3=>⟨?_,h1.chg⟩⟩,fun h2=>⟨?_,h1.chg⟩⟩,fun h=>⟨?_,h1.chg⟩⟩
 all_goals
   congr 2
   unfold iN
   simp only [ge_iff_le,decide_eq_true_eq,decide_eq_false_iff_not] at*
   simp [*]

theorem IC (r:bq) (w:World):Calls Tryz.prog 181 #[.agg (aC r).toArray] w fun e w'=>e=.returned (.bool (!iN r))∧Chg [] w w':=by
 apply o9
 obtain ⟨g1,w1,r1,h1⟩:=(St.start w).b7 (P:=Tryz.prog) 100 (aC r)
 refine ⟨g1,w1,r1,_,h1.ldA (i:=0) (l:=aC r) rfl (rfA _) (rfS _) (aI r),(II r w1).mono ?_⟩
 rintro e w2 ⟨rfl,c2⟩
 exact ⟨_,rfl,rfl,h1.chg.trans c2⟩

theorem zJ (a:Option Addr) (n c:Nat) (l:Refs) (w:World) (hr:RdR w a n c l) (hb:n≤4611686018427387904):
   Calls Tryz.prog 180 #[.slice a n c,.func (.func 181) #[] #[]] w fun e w'=>e=.returned (.bool (!l.all iN))∧Chg [] w w':=by
 have hln:=hr.num (by decide)
 apply fQ
 have key:Calls Tryz.prog 261 #[.slice a n c,.func (.func 181) #[] #[]] w fun e w'=>∃t:Int,e=.returned (.int .i64 t)∧decide (t≥0)=(!l.all iN)∧Chg [] w w':=by
   apply gG
   refine ⟨fun x w'=>∃i:Nat,x=(i:Int)∧i≤n∧(l.take i).all iN=true∧Chg [] w w',fun x _=>n-x.toNat,⟨0,rfl,by omega,by simp,Chg.refl _ _⟩,?_⟩
   rintro x w1 ⟨i,rfl,hi,hall,hc⟩
   refine ⟨fun h=>?_,fun h=>?_⟩
   · have hi':i<n:=by simp at h;omega
     obtain ⟨b,o,ha,q⟩:=hr.ld (P:=Tryz.prog) (by decide) rfA rfS (i:=i) (List.getElem?_eq_getElem (by omega))
     refine ⟨b,o,ha,by omega,by omega,_,q w1 (hr.an hc),181,[],rfl,by kernel_rfl,(IC _ w1).mono ?_⟩
     rintro e w2 ⟨rfl,c2⟩
     refine ⟨_,rfl,fun h=>⟨_,rfl,?_,hc.trans c2⟩,fun h=>⟨⟨i+1,aq hi' hb,by omega,?_,hc.trans c2⟩,aB hi' hb⟩⟩
     · have hg:iN l[i]=false:=by simpa using h
       have:l.all iN=false:=by
         rw [List.all_eq_false]
         exact ⟨l[i],List.getElem_mem _,by simp [hg]⟩
       rw [this]
       simp
     · rw [List.take_add_one,List.getElem?_eq_getElem (by omega),List.all_append,hall]
       simpa using h
   · have hi':i=n:=by simp at h;omega
     rw [hi',List.take_of_length_le (by omega)] at hall
     exact ⟨_,rfl,by rw [hall];rfl,hc⟩
 refine Calls.mono key ?_
 rintro e w' ⟨t,rfl,h1,h2⟩
 exact ⟨t,rfl,by rw [h1],h2⟩

def gv (w0:World) (X:List Nat) (w:World) (gi gm:Nat) (S:Refs) (N:List Res):Prop:=
 ∃es clock M,bD kyV vlV es clock M∧nA M S∧St w0 X w (.arr gi 272 [.map (some gm)]:: .blk gm (.map es clock)::N)

theorem Cb:Tryz.prog.built 272=fun parts=>Instr.fill (fun i=>(#[(0,1)]:Array (Nat×Nat))[i]?) #[.map none] parts:=by kernel_rfl
theorem DV (v:Value) (hv:v.cells= #[v]) (w:World):(Instr.build 272 #[(0,v)]).run Tryz.prog w=.ok (.agg #[v]) w:=by
 apply run_build
 rw [Cb]
 show Instr.fill _ _ [(0,v)]=_
 rw [aA (off:=0) (sz:=1) rfl (by simp [hv]) (by simp)]
 simp [Instr.fill,hv]

theorem JN (w:World):Calls Tryz.prog 142 #[] w fun e w'=>∃gi gm,e=.returned (.pointer (some ⟨gi,0,none⟩))∧gv w [] w' gi gm [] []:=by
 apply B5
 have h1:St w [] (w.alloc (.map #[] 0)) [.blk w.heap.size (.map #[] 0)]:=(St.start w).add (Chg.alloc _ _) (heap_alloc_new w _) (by simp [Res.fp])
 obtain ⟨g3,w2,r2,h2⟩:=h1.b7 (P:=Tryz.prog) 272 [.map (some w.heap.size)]
 refine ⟨.map (some w.heap.size),_,rfl, #[.map (some w.heap.size)],DV _ rfl _,g3,w2,r2,g3,_,rfl, #[],0,[],bD.nil _ _,nA.nil,h2.perm (List.Perm.swap _ _ _)⟩

theorem St.uV {M:List Res} (h:St w0 X w M) {i g:Nat} {o o':Obj} (hi:M[i]?=some (.blk g o)):St w0 X (w.putObj g o') (M.set i (.blk g o')):=by
 have hg:w.heap[g]?=some o:=h.holds i _ hi
 have hlt:=(Array.getElem?_eq_some_iff.1 hg).1
 refine h.upd hi ⟨rfl,rfl,rfl,by simp,fun k hk hx=>?_⟩ (World.putObj_heap_same hlt) (by simp [Res.fp])
 exact World.putObj_heap_other fun e=>hx (by simp [Res.fp,e])

theorem F9 {g:Nat} {o:Obj} (w:World) (o':Obj) (_:w.heap[g]?=some o):Chg [g] w (w.putObj g o'):=⟨rfl,rfl,rfl,by simp,fun k _ hx=>World.putObj_heap_other fun e=>hx (by simp [e])⟩

theorem Ho (gi gm:Nat) (S:Refs) (a:Option Addr) (n c:Nat) (l:Refs) (h:gv w0 X w gi gm S N) (hr:RdR w a n c l) (hb:n≤4611686018427387904):
   Calls Tryz.prog 86 #[.pointer (some ⟨gi,0,none⟩),.slice a n c] w fun e w'=>RdR w' a n c l∧((l.all iN=true∧e=.returned (bk none)∧gv w0 X w' gi gm (iM S l) N)∨(l.all iN=false∧e=.returned (bk (some 28))∧gv w0 X w' gi gm S N)):=by
 have hln:=hr.num (by decide)
 apply rA
 refine (zJ a n c l w hr hb).mono ?_
 rintro e w1 ⟨rfl,c1⟩
 obtain ⟨es,clock,M,hE,hM,hS⟩:=h
 have h1:=hS.same c1
 have hr1:=hr.an c1
 refine ⟨_,rfl,fun hb=>?_,fun hgood=>?_⟩
 · have:l.all iN=false:=by simpa using hb
   exact ⟨hr1,.inr ⟨this,rfl,es,clock,M,hE,hM,h1⟩⟩
 have hall:l.all iN=true:=by simpa using hgood
 refine ⟨fun x w'=>∃i:Nat,x=(i:Int)∧i≤n∧RdR w' a n c l∧gv w0 X w' gi gm (iM S (l.take i)) N,fun x _=>n-x.toNat,⟨0,rfl,by omega,hr1,es,clock,M,hE,hM,h1⟩,?_⟩
 rintro x w2 ⟨i,rfl,hi,hr2,es2,clock2,M2,hE2,hM2,h2⟩
 refine ⟨fun h=>?_,fun h=>?_⟩
 · have hi':i<n:=by simp at h;omega
   obtain ⟨r,hri⟩:∃r,l[i]?=some r:=⟨l[i],List.getElem?_eq_getElem (by omega)⟩
   obtain ⟨b,o,ha,q⟩:=hr2.ld (P:=Tryz.prog) (by decide) rfA rfS (i:=i) hri
   obtain ⟨g6,w3,r3,h3⟩:=h2.az rfZ
   have e6:(.arr gi 272 [.map (some gm)]:: .blk gm (.map es2 clock2)::N++ [Res.arr g6 100 (aC ep)]:List Res)[N.length+2]?=some (.arr g6 100 (aC ep)):=by
     rw [List.getElem?_append_right (by simp)];simp
   obtain ⟨w4,r4,h4⟩:=h3.stA (i:=N.length+2) (v:=aC r) e6 (rfS _) (aI _) (aI _) (dR r)
   have hset:(.arr gi 272 [.map (some gm)]:: .blk gm (.map es2 clock2)::N++ [Res.arr g6 100 (aC ep)]:List Res).set (N.length+2) (.arr g6 100 (aC r))=.arr gi 272 [.map (some gm)]:: .blk gm (.map es2 clock2)::(N++ [.arr g6 100 (aC r)]):=by simp
   rw [hset] at h4
   have h4d:=h4.drew
   have hg4:w4.drew.heap[gm]?=some (.map es2 clock2):=h4d.holds 1 _ rfl
   obtain ⟨es5,clock5,r5,hE5⟩:=hE2.update (P:=Tryz.prog) (MC M2) Kz hg4 r r.idl
   have h5:=St.uV h4d (i:=1) (o':=.map es5 clock5) rfl
   have h5:St w0 X (w4.drew.putObj gm (.map es5 clock5)) (.arr gi 272 [.map (some gm)]:: .blk gm (.map es5 clock5)::(N++ [.arr g6 100 (aC r)])):=h5
   have c34:Chg [] w2 w4:=by
     obtain ⟨g',w',r',h'⟩:=(St.start w2).az (P:=Tryz.prog) rfZ
     have e1:=r3.symm.trans r'
     simp only [Result.ok.injEq,Value.pointer.injEq,Option.some.injEq,Addr.mk.injEq,and_true] at e1
     obtain ⟨e1,e2⟩:=e1
     subst e1 e2
     obtain ⟨w'',r'',h''⟩:=h'.stA (i:=0) (v:=aC r) rfl (rfS _) (aI _) (aI _) (dR r)
     have e3:=r4.symm.trans r''
     simp only [Result.ok.injEq,true_and] at e3
     rw [e3]
     exact h''.chg
   have hr5:RdR (w4.drew.putObj gm (.map es5 clock5)) a n c l:=⟨Rd.N7 ((hr2.an (c34.trans (Chg.drew [] w4))).rd) hg4 (by simp) (F9 _ _ hg4),hr2.len⟩
   refine ⟨b,o,ha,by omega,by omega,_,q w2 hr2,g6,w3,r3,w4,r4,fun w'=>∃es' c',St w0 X w' (.arr gi 272 [.map (some gm)]:: .blk gm (.map es' c')::(N++ [.arr g6 100 (aC r)])),⟨_,_,h4d⟩,_,?_,_,?_,_,?_,_,r5,_,fun _ h=>h,⟨_,_,h5⟩,⟨i+1,aq hi' hb,by omega,hr5,es5,clock5,wE bq.id M2 r,hE5,?_,h5.sub ?_⟩,aB hi' hb⟩
   · rintro w' ⟨_,_,h'⟩
     exact h'.ldL (i:=0) (l:=[.map (some gm)]) rfl (mpA _) rfl rfl
   · rintro w' ⟨_,_,h'⟩
     exact JB h' (i:=N.length+2) (r:=r) (T:=100) (by simp)
   · rintro w' ⟨_,_,h'⟩
     exact h'.ldA (i:=N.length+2) (l:=aC r) (T':=100) (g:=g6) (by simp) (rfA _) (rfS _) (aI r)
   · have:=hM2.upd r
     rw [List.take_add_one,hri]
     simpa [iM] using this
   · exact List.Sublist.cons_cons _ (List.Sublist.cons_cons _ (List.sublist_append_left _ _))
 · have hi':i=n:=by simp at h;omega
   rw [hi',List.take_of_length_le (by omega)] at hM2
   exact ⟨hr2,.inl ⟨hall,rfl,es2,clock2,M2,hE2,hM2,h2⟩⟩
end

end Go.Proofs.YtpmhjnhgpplmnaaGreatDoor
end

section
namespace Go.Proofs.YtpmhjnhgpplmnaaGreatDoor
open Go Sx
set_option maxRecDepth 8000

theorem MM (l:List Int) (i:Nat):(zv l)[i]?=l[i]?.map (Value.int .i64):=by simp [zv]
abbrev RdZ (w:World) (a:Option Addr) (n c:Nat) (l:List Int):Prop:=Rd w a n c 1 (zv l)
theorem RdZ.num {w:World} {a:Option Addr} {n c:Nat} {l:List Int} (h:RdZ w a n c l):l.length=n:=by have:=h.len;simpa [zv] using this
theorem ixZ {w:World} {a:Option Addr} {n c:Nat} {l:List Int} (h:RdZ w a n c l) {i:Nat} {x:Int} (hx:l[i]?=some x):
   ∃b o,a=some ⟨b,o,none⟩∧∀w',RdZ w' a n c l→(Instr.loadAt 3 (.pointer (some ⟨b,o+Int.toNat (i:Int)*1,none⟩))).run Tryz.prog w'=.ok (.int .i64 x) w':=by
 have hv:(zv l)[i]?=some (.int .i64 x):=by rw [MM,hx];rfl
 obtain ⟨b,o,ha,_⟩:=h.cells.at_ hv
 refine ⟨b,o,ha,fun w' h'=>?_⟩
 obtain ⟨b',o',ha',hc⟩:=h'.cells.at_ hv
 rw [ha] at ha'
 simp only [Option.some.injEq,Addr.mk.injEq,and_true] at ha'
 obtain ⟨rfl,rfl⟩:=ha'
 rw [show o+Int.toNat (i:Int)*1=o+i by omega]
 exact ld1 (inA _) hc

theorem kK (a:Option Addr) (n c:Nat) (l:List Int) (x:Int) (w:World) (hr:RdZ w a n c l) (hb:n≤4611686018427387904):
   Calls Tryz.prog 135 #[.slice a n c,.int .i64 x] w fun e w'=>e=.returned (.bool (l.contains x))∧w'=w:=by
 have hln:=hr.num
 apply ku
 apply mu
 refine ⟨fun y w'=>∃i:Nat,y=(i:Int)∧i≤n∧(l.take i).contains x=false∧w'=w,fun y _=>n-y.toNat,⟨0,rfl,by omega,by simp,rfl⟩,?_⟩
 rintro y w1 ⟨i,rfl,hi,hno,rfl⟩
 refine ⟨fun h=>?_,fun h=>?_⟩
 · have hi':i<n:=by simp at h;omega
   have hli:l[i]?=some l[i]:=List.getElem?_eq_getElem (by omega)
   obtain ⟨b,o,ha,q⟩:=ixZ hr hli
   refine ⟨b,o,ha,by omega,by omega,_,q w1 hr,fun he=>?_,fun hne=>⟨⟨i+1,aq hi' hb,by omega,?_,rfl⟩,aB hi' hb⟩⟩
   · have hm:l.contains x=true:=by
       rw [List.contains_iff_mem]
       have:x=l[i]:=by simpa using he
       rw [this];exact List.getElem_mem _
     refine ⟨_,rfl,?_,rfl⟩
     rw [hm]
     simp
   · rw [List.take_add_one,hli,List.contains_eq_any_beq,List.any_append]
     rw [List.contains_eq_any_beq] at hno
     rw [hno]
     simpa using hne
 · have hi':i=n:=by simp at h;omega
   rw [hi',List.take_of_length_le (by omega)] at hno
   refine ⟨_,rfl,?_,rfl⟩
   rw [hno]
   rfl

def bu (S:Refs) (ps:List Int):Refs:=S.filter fun r=> !ps.contains r.pack
theorem vP {S:Refs} (h:Asc S) (ps:List Int):Asc (bu S ps):=h.sublist (List.filter_sublist)
section
variable {w0 w:World} {X:List Nat} {N:List Res}

theorem nj (gi gm:Nat) (S:Refs) (id:List UInt8) (hid:id.length=32) (h:gv w0 X w gi gm S N):
   Calls Tryz.prog 137 #[.pointer (some ⟨gi,0,none⟩),.agg (bv id).toArray] w fun e w'=>e=.returned (.tuple #[.agg (aC ((findF S id).getD ep)).toArray,.bool (findF S id).isSome])∧Chg [] w w':=by
 obtain ⟨es,clock,M,hE,hM,hS⟩:=h
 apply qp
 obtain ⟨g3,w1,r1,h1⟩:=(St.start w).b7 (P:=Tryz.prog) 87 (bv id)
 obtain ⟨g4,w2,r2,h2⟩:=h1.az rfZ
 have h2:St w [] w2 [.arr g3 87 (bv id),.arr g4 100 (aC ep)]:=h2
 have h2d:=h2.drew
 obtain ⟨x,hx⟩:∃x,findF S id=x:=⟨_,rfl⟩
 have LK:∀w',Chg [] w w'→(Instr.lookup 270 (.map (some gm)) (.agg (bv id).toArray) true).run Tryz.prog w'=.ok (.tuple #[.agg (aC (x.getD ep)).toArray,.bool x.isSome]) w':=by
   intro w' hc
   have hg:w'.heap[gm]?=some (.map es clock):=(hS.same hc).holds 1 _ rfl
   have hl:=hE.lookup (P:=Tryz.prog) (MC M) Kz hg hid (z:=.agg (aC ep).toArray) rfZ
   have hf:=hM.find id
   rw [hx] at hf
   rw [hl]
   cases hq:dQ bq.id M id with
   | none=>rw [hq] at hf;subst hf;rfl
   | some p=>rw [hq] at hf;subst hf;rfl
 have LM:∀w',Chg [] w w'→(Instr.loadAt 270 (.pointer (some ⟨gi,0,none⟩))).run Tryz.prog w'=.ok (.map (some gm)) w':=fun w' hc=>
   (hS.same hc).ldL (i:=0) (l:=[.map (some gm)]) rfl (mpA _) rfl rfl
 refine ⟨g3,w1,r1,g4,w2,r2,fun b o y w'=>o=0∧y=x.isSome∧St w [] w' [.arr g3 87 (bv id),.arr g4 100 (aC ep),.arr b 100 (aC (x.getD ep))],
   ⟨fun w'=>∃M',St w [] w' (.arr g3 87 (bv id):: .arr g4 100 (aC ep)::M'),⟨_,h2d⟩,.map (some gm),fun w' ⟨_,h'⟩=>LM w' h'.chg,(bv id).toArray,fun w' ⟨_,h'⟩=>h'.ldA (i:=0) (l:=bv id) rfl (DQ _) (zz _) (by simp [hid]),?_,?_⟩,?_⟩
 · obtain ⟨g6,w4,r4,h4⟩:=h2d.az rfZ
   obtain ⟨w5,r5,h5⟩:=h4.stA (i:=2) (v:=aC (x.getD ep)) rfl (rfS _) (aI _) (aI _) (dR _)
   exact ⟨_,_,_,LK _ h2d.chg,_,fun _ h=>h,⟨_,h2d⟩,g6,w4,r4,_,fun _ h=>h,⟨_,h4⟩,w5,r5,rfl,rfl,h5⟩
 · obtain ⟨g6,w4,r4,h4⟩:=h2d.az rfZ
   obtain ⟨w5,r5,h5⟩:=h4.stA (i:=2) (v:=aC (x.getD ep)) rfl (rfS _) (aI _) (aI _) (dR _)
   exact ⟨g6,w4,r4,_,fun _ h=>h,⟨_,h4⟩,_,_,_,LK _ h4.chg,_,fun _ h=>h,⟨_,h4⟩,w5,r5,rfl,rfl,h5⟩
 · rintro b o y w9 ⟨rfl,rfl,h9⟩
   obtain ⟨w10,r10,h10⟩:=h9.stA (i:=1) (v:=aC (x.getD ep)) rfl (rfS _) (aI _) (aI _) (dR _)
   exact ⟨_,h9.ldA (i:=2) (l:=aC (x.getD ep)) rfl (rfA _) (rfS _) (aI _),w10,r10,_,h10.bF (i:=1) (l:=aC (x.getD ep)) rfl (rfA _) (rfS _) (aI _),by rw [hx],h10.chg⟩
end

end Go.Proofs.YtpmhjnhgpplmnaaGreatDoor
end

section
namespace Go.Proofs.YtpmhjnhgpplmnaaGreatDoor
open Go Sx
set_option maxRecDepth 8000

structure gZ where
 K:List UInt8
 C:bR
 S:Refs
 dead:Bool
structure wD where
 ps:List Nat
 gi:Nat
 gm:Nat
 es:Array MapEntry
 ck:Nat
 M:Refs
 sa:Option Addr
 sc:Nat
 pa:Option Addr
 pc:Nat
def fK (gd gi:Nat) (r:gZ) (sa:Option Addr) (sc:Nat) (pa:Option Addr) (pc:Nat):List Value:=
 pV gd::pV gi::(bv r.K++(bV r.C sa r.C.snaps.length sc pa r.C.aj.length pc++ [.slice none 0 0,.bool r.dead]))
def lB (C:bR) (sa:Option Addr) (sc:Nat):Res:=.row 89 36 (.slice sa C.snaps.length sc) C.snaps.length (C.snaps.flatMap fH)
def lF (C:bR) (pa:Option Addr) (pc:Nat):Res:=.row 91 3 (.slice pa C.aj.length pc) C.aj.length (C.aj.flatMap pkC)
def ixR (gi gm:Nat) (es:Array MapEntry) (ck:Nat):List Res:=[.arr gi 272 [.map (some gm)],.blk gm (.map es ck)]
def wD.T (q:wD) (gd gr:Nat) (r:gZ):List Res:=.arr gr 145 (fK gd q.gi r q.sa q.sc q.pa q.pc)::lB r.C q.sa q.sc::lF r.C q.pa q.pc::ixR q.gi q.gm q.es q.ck
structure ROk (r:gZ) (q:wD):Prop where
 Ma:bD kyV vlV q.es q.ck q.M
 Ei:nA q.M r.S
 kl:r.K.length=96
 poly:r.C.set.poly<W64
 chk:aH r.C=true
 cok:gE r.C
 names:∀s∈r.C.snaps,s.name.length≤4611686018427387904
 sn:r.C.snaps.length≤1000000
 pn:r.C.aj.length≤1000000
 good:∀x∈r.S,iN x=true∧x.len≤67000000
def G6 (w0 w:World) (gd gr:Nat) (m:af) (r:gZ) (N:List Res):Prop:=∃q:wD,ROk r q∧ah w0 [] w gd q.ps m (N++q.T gd gr r)

theorem LY (w:World):(isAgg 143).run Tryz.prog w=.ok false w:=Tryz.isAgg143 w
theorem Nd (w:World):(isAgg 29).run Tryz.prog w=.ok false w:=Tryz.isAgg29 w
theorem OM (w:World):(isAgg 4).run Tryz.prog w=.ok false w:=Tryz.isAgg4 w
theorem rZ {gd gi:Nat} {r:gZ} (hk:r.K.length=96) (sa:Option Addr) (sc:Nat) (pa:Option Addr) (pc:Nat):(fK gd gi r sa sc pa pc).length=109:=by
 simp [fK,Kf,hk]
theorem jW {gd gi:Nat} {r:gZ} (hk:r.K.length=96) (sa:Option Addr) (sc:Nat) (pa:Option Addr) (pc:Nat):((fK gd gi r sa sc pa pc).drop 2).take 96=bv r.K:=by
 show (bv r.K++_).take 96=_
 rw [List.take_append_of_le_length (by simp [hk]),List.take_of_length_le (by simp [hk])]
theorem uF {gd gi:Nat} {r:gZ} (hk:r.K.length=96) (sa:Option Addr) (sc:Nat) (pa:Option Addr) (pc:Nat):(fK gd gi r sa sc pa pc).drop 98=bV r.C sa r.C.snaps.length sc pa r.C.aj.length pc++ [.slice none 0 0,.bool r.dead]:=by
 show (bv r.K++_).drop 96=_
 rw [List.drop_append_of_le_length (by simp [hk]),List.drop_of_length_le (by simp [hk]),List.nil_append]
theorem yp {gd gi:Nat} {r:gZ} (hk:r.K.length=96) (sa:Option Addr) (sc:Nat) (pa:Option Addr) (pc:Nat):((fK gd gi r sa sc pa pc).drop 98).take 9=bV r.C sa r.C.snaps.length sc pa r.C.aj.length pc:=by
 rw [uF hk];rfl
theorem sF {gd gi:Nat} {r:gZ} (hk:r.K.length=96) (sa:Option Addr) (sc:Nat) (pa:Option Addr) (pc:Nat) (i:Nat):(fK gd gi r sa sc pa pc)[98+i]?=(bV r.C sa r.C.snaps.length sc pa r.C.aj.length pc++ [.slice none 0 0,.bool r.dead])[i]?:=by
 rw [←uF (gd:=gd) (gi:=gi) hk,List.getElem?_drop]

def kO (r:gZ) (m:af):Option Int:=if r.dead then some 22 else if m.down then some 1 else none
def getM (r:gZ) (m:af) (id:List UInt8):Option Int×List UInt8:=match kO r m with
 | some e=>(some e,[])
 | none=>match findF r.S id with
   | none=>(some 10,[])
   | some x=>if (gM m (ay x.pack) x.at_ x.len).isSome then (some 10,[]) else match dJ r.K 2 id (eV m (ay x.pack) x.at_ x.len) with
     | none=>(some 10,[])
     | some p=>if idF r.K p=id then (none,p) else (some 10,[])

section
variable {w0 w w':World} {N:List Res} {gd gr:Nat} {m:af} {r:gZ} {q:wD}

theorem ROk.idx (ok:ROk r q) (h:ah w0 [] w gd q.ps m (N++q.T gd gr r)):gv w0 [] w q.gi q.gm r.S []:=
 ⟨_,_,_,ok.Ma,ok.Ei,h.top.sub (List.Sublist.cons _ (List.Sublist.cons _ (List.Sublist.cons _ (List.Sublist.refl _))))⟩

theorem vQ (ok:ROk r q) (h:ah w0 [] w gd q.ps m (N++q.T gd gr r)):Calls Tryz.prog 126 #[pV gr] w fun e w'=>e=.returned (bk (kO r m))∧w'=w:=by
 apply q9
 refine ⟨_,h.top.ldL (i:=0) (o:=108) rfl (OM _) rfl (sF ok.kl q.sa q.sc q.pa q.pc 10),fun hd=>?_,fun hd=>?_⟩
 · unfold kO;rw [if_pos hd];exact ⟨rfl,rfl⟩
 refine ⟨_,_,h.top.ldL (i:=0) (o:=0) rfl (pdA _) rfl rfl,(uz h).mono ?_⟩
 rintro e w1 ⟨rfl,rfl⟩
 unfold kO
 rw [if_neg (by rw [hd];simp)]
 refine ⟨_,rfl,fun h=>?_,fun h=>?_⟩
 · rw [if_pos h];exact ⟨rfl,rfl⟩
 · rw [if_neg (by rw [h];simp)];exact ⟨rfl,rfl⟩

theorem IF (ok:ROk r q) (h:ah w0 [] w gd q.ps m (N++q.T gd gr r)):Calls Tryz.prog 53 #[pV gr] w fun e w'=>e=.returned (.agg (bv r.K).toArray)∧Chg [] w w':=by
 apply tX
 obtain ⟨g2,w1,r1,k1⟩:=(St.start w).az kyZ
 have k1:St w [] w1 [.arr g2 41 (bv (List.replicate 96 0))]:=k1
 obtain ⟨w2,r2,k2⟩:=k1.stA (i:=0) (v:=bv r.K) rfl (qF _) (by simp) (by simp [ok.kl]) (aG _)
 exact ⟨g2,w1,r1,_,(h.same k1.chg).top.ldP (i:=0) (o:=2) rfl (tV _) (qF _) (jW ok.kl _ _ _ _) (by simp [ok.kl]),w2,r2,_,k2.bF (i:=0) (l:=bv r.K) rfl (tV _) (qF _) (by simp [ok.kl]),rfl,k2.chg⟩

theorem ROk.cat (ok:ROk r q) (h:ah w0 [] w gd q.ps m (N++q.T gd gr r)):Bo w r.C q.sa r.C.snaps.length q.sc q.pa r.C.aj.length q.pc:=
 ⟨ok.poly,⟨h.top.rd (i:=1) rfl,fun x _=>iX x⟩,⟨h.top.rd (i:=2) rfl,fun _ _=>rfl⟩,ok.names⟩
theorem Bn (ok:ROk r q) (h:ah w0 [] w gd q.ps m (N++q.T gd gr r)):Calls Tryz.prog 16 #[pV gr] w fun e w'=>∃sa sc pa pc,e=.returned (.agg (bV r.C sa r.C.snaps.length sc pa r.C.aj.length pc).toArray)∧St w [] w' [lB r.C sa sc,lF r.C pa pc]:=by
 apply oN
 obtain ⟨g2,w1,r1,k1⟩:=(St.start w).az AF
 have k1:St w [] w1 [.arr g2 47 gQ]:=k1
 have h1:=h.same k1.chg
 refine ⟨g2,w1,r1,_,h1.top.ldP (i:=0) (o:=98) rfl (jM _) (fI _) (yp ok.kl _ _ _ _) rfl,(Be r.C q.sa _ q.sc q.pa _ q.pc w1 (ok.cat h1) ok.sn ok.pn).mono ?_⟩
 rintro e w2 ⟨sa,sc,pa,pc,rfl,k2⟩
 have k3:=Sx.St.cC (N:=[]) (by rw [List.append_nil];exact k1) k2
 obtain ⟨w3,r3,k4⟩:=k3.stA (i:=0) (v:=bV r.C sa r.C.snaps.length sc pa r.C.aj.length pc) rfl (fI _) rfl rfl (mm _ _ _ _ _ _ _)
 exact ⟨_,rfl,w3,r3,_,k4.bF (i:=0) (l:=bV r.C sa r.C.snaps.length sc pa r.C.aj.length pc) rfl (jM _) (fI _) rfl,sa,sc,pa,pc,rfl,k4.sub (List.Sublist.cons _ (List.Sublist.refl _))⟩
theorem Cv (m:af) (n:Nm) (i k:Int):(eV m n i k).length≤k.toNat:=by
 unfold eV
 split
 · simp
 · rw [List.length_take];omega

set_option maxHeartbeats 1000000 in
theorem KM (id:List UInt8) (hid:id.length=32) (ok:ROk r q) (h:ah w0 [] w gd q.ps m (N++q.T gd gr r)) (hK:cR w0) (hT:jr w0):Calls Tryz.prog 51 #[pV gr,.agg (bv id).toArray] w fun e w'=>∃a c,e=.returned (.tuple #[.slice a (getM r m id).2.length c,bk (getM r m id).1])∧St w [] w' [.row 5 1 (.slice a (getM r m id).2.length c) (getM r m id).2.length (bv (getM r m id).2)]:=by
 obtain ⟨mI,hI⟩:=eI
 have fin:∀ {w':World} {M':List Res} (e:Int),St w [] w' M'→getM r m id=(some e,[])→∃a c,Ending.returned (.tuple #[.slice none 0 0,bk (some e)])=.returned (.tuple #[.slice a (getM r m id).2.length c,bk (getM r m id).1])∧St w [] w' [.row 5 1 (.slice a (getM r m id).2.length c) (getM r m id).2.length (bv (getM r m id).2)]:=fun e k hg=>⟨none,0,by rw [hg];rfl,by rw [hg];exact (k.b8 5 1).sub (List.sublist_append_right _ _)⟩
 apply uR
 obtain ⟨g3,w1,r1,k1⟩:=(St.start w).b7 (P:=Tryz.prog) 87 (bv id)
 have k1:St w [] w1 [.arr g3 87 (bv id)]:=k1
 refine ⟨g3,w1,r1,(vQ ok (h.same k1.chg)).mono ?_⟩
 rintro e w2 ⟨rfl,rfl⟩
 refine ⟨_,rfl,_,au hI _ _ _,fun hbad=>?_,fun hgood=>?_⟩
 · obtain ⟨y,hy⟩:=Option.isSome_iff_exists.1 hbad
   rw [hy]
   exact fin y k1 (by unfold getM;rw [hy])
 have hrd:kO r m=none:=by simpa using hgood
 have kd:=k1.drew
 have ldX:∀w',Chg [] w w'→(Instr.loadAt 143 (.pointer (some ⟨gr,0+1,none⟩))).run Tryz.prog w'=.ok (pV q.gi) w':=fun w' hc=>(h.same hc).top.ldL (i:=0) (o:=1) rfl (LY _) rfl rfl
 obtain ⟨x,hx⟩:∃x,findF r.S id=x:=⟨_,rfl⟩
 refine ⟨fun b o y w'=>o=0∧y=x.isSome∧St w [] w' [.arr g3 87 (bv id),.arr b 100 (aC (x.getD ep))],⟨fun w'=>∃M',St w [] w' (.arr g3 87 (bv id)::M'),⟨_,kd⟩,_,_,fun w' ⟨_,h'⟩=>ldX w' h'.chg,_,fun w' ⟨_,h'⟩=>h'.ldA (i:=0) (l:=bv id) rfl (DQ _) (zz _) (by simp [hid]),?_,?_⟩,?_⟩
 · refine (nj q.gi q.gm r.S id hid (ok.idx (h.same kd.chg))).mono ?_
   rintro e w2 ⟨rfl,c2⟩
   rw [hx]
   have k2:=kd.same c2
   obtain ⟨g5,w3,r3,k3⟩:=k2.az rfZ
   obtain ⟨w4,r4,k4⟩:=k3.stA (i:=1) (v:=aC (x.getD ep)) rfl (rfS _) (aI _) (aI _) (dR _)
   exact ⟨_,_,rfl,_,fun _ h=>h,⟨_,k2⟩,g5,w3,r3,_,fun _ h=>h,⟨_,k3⟩,w4,r4,rfl,rfl,k4⟩
 · obtain ⟨g5,w5,r5,k5⟩:=kd.az rfZ
   refine ⟨g5,w5,r5,_,fun _ h=>h,⟨_,k5⟩,(nj q.gi q.gm r.S id hid (ok.idx (h.same k5.chg))).mono ?_⟩
   rintro e w2 ⟨rfl,c2⟩
   rw [hx]
   have k6:=k5.same c2
   obtain ⟨w4,r4,k4⟩:=k6.stA (i:=1) (v:=aC (x.getD ep)) rfl (rfS _) (aI _) (aI _) (dR _)
   exact ⟨_,_,rfl,_,fun _ h=>h,⟨_,k6⟩,w4,r4,rfl,rfl,k4⟩
 rintro b o y w9 ⟨rfl,rfl,k9⟩
 cases x with
 | none=>exact ⟨fun _=>fin 10 k9 (by unfold getM;rw [hrd,hx]),fun h=>by simp at h⟩
 | some x=>
   refine ⟨fun h=>by simp at h,fun _=>?_⟩
   obtain ⟨hg,hlen⟩:=ok.good x (List.mem_of_find?_eq_some hx)
   have hgp:cU x.pack=true:=by
     unfold iN at hg
     simp only [Bool.and_eq_true,decide_eq_true_eq] at hg
     exact dO.2 ⟨hg.1.1.1,hg.1.1.2⟩
   have k9:St w [] w9 [.arr g3 87 (bv id),.arr b 100 (aC x)]:=k9
   have fl:∀ {w':World} {M':List Res},St w [] w' (.arr g3 87 (bv id):: .arr b 100 (aC x)::M')→_:=fun k=>u6 k (i:=1) rfl
   refine ⟨fun w'=>∃M',St w [] w' (.arr g3 87 (bv id):: .arr b 100 (aC x)::M'),⟨_,k9.drew⟩,_,_,fun w' ⟨_,k⟩=>(h.same k.chg).top.ldL (i:=0) (o:=0) rfl (pdA _) rfl rfl,_,fun w' ⟨_,k⟩=>(fl k).1,_,fun w' ⟨_,k⟩=>(fl k).2.1,_,fun w' ⟨_,k⟩=>(fl k).2.2,(jo x.pack _ (hT.an (h.chg.trans k9.drew.chg)) hgp).mono ?_⟩
   rintro e w10 ⟨rfl,c10⟩
   have k10:=k9.drew.same c10
   refine ⟨_,rfl,_,fun _ h=>h,⟨_,k10⟩,(Dw (ay x.pack) x.at_ x.len x.ak x.lk (h.same k10.chg)).mono ?_⟩
   rintro e w11 ⟨ba,bn,bc,rfl,f11⟩
   have hbl:=f11.2.1
   have k11:=f11.add k10
   have k11:St w [] w11 (.arr g3 87 (bv id):: .arr b 100 (aC x):: [.row 5 1 (.slice ba bn bc) bn (bv (eV m (ay x.pack) x.at_ x.len))]):=k11
   obtain ⟨bl,hblo⟩:∃bl,eV m (ay x.pack) x.at_ x.len=bl:=⟨_,rfl⟩
   have hbn:bn≤67000000:=by have:=Cv m (ay x.pack) x.at_ x.len;omega
   rw [hblo] at k11 hbl
   refine ⟨_,_,_,_,rfl,_,fun _ h=>h,⟨_,k11⟩,_,au hI _ _ _,fun hbad=>?_,fun hok=>?_⟩
   · exact fin 10 k11 (by unfold getM;rw [hrd,hx];simp only;rw [if_pos hbad])
   have hok':¬(gM m (ay x.pack) x.at_ x.len).isSome=true:=by rw [hok];simp
   have hgm:getM r m id=match dJ r.K 2 id bl with | none=>(some 10,[]) | some p=>if idF r.K p=id then (none,p) else (some 10,[]):=by
     unfold getM;rw [hrd,hx];simp only;rw [if_neg hok',hblo]
   refine ⟨fun w'=>∃M',St w [] w' (.arr g3 87 (bv id)::M'),⟨_,k11.drew⟩,by omega,by omega,_,fun w' ⟨_,k⟩=>(h.same k.chg).top.ldP (i:=0) (o:=2) rfl (tV _) (qF _) (jW ok.kl _ _ _ _) (by simp [ok.kl]),(AN r.K 2 _ _ _ id ba bn bc bl _ ok.kl (hK.an (h.chg.trans k11.drew.chg)) (k11.drew.rdA (i:=0) rfl (by simp [hid])) (k11.drew.rd (i:=2) rfl) (by omega)).mono ?_⟩
   rintro e w12 ⟨pa,pn,pc,rfl,f12⟩
   have hpl:=f12.2.1
   have k12:=f12.add k11.drew
   refine ⟨_,_,_,_,rfl,_,fun _ h=>h,⟨_,k12⟩,_,au hI _ _ _,fun hbad=>?_,fun hok=>?_⟩
   · cases ho:dJ r.K 2 id bl with
     | some p=>unfold jD at hbad;rw [ho] at hbad;simp at hbad
     | none=>
       have:jD r.K 2 id bl=some 10:=by unfold jD;rw [ho];rfl
       rw [this]
       exact fin 10 k12 (by rw [hgm,ho])
   cases ho:dJ r.K 2 id bl with
   | none=>unfold jD at hok;rw [ho] at hok;simp at hok
   | some p=>
     rw [ho] at k12 hpl hgm
     have k12:St w [] w12 (.arr g3 87 (bv id):: .arr b 100 (aC x):: [.row 5 1 (.slice ba bn bc) bn (bv bl),.row 5 1 (.slice pa pn pc) pn (bv p)]):=k12
     have hpn:p.length=pn:=hpl
     have hpl2:=me ho (by omega)
     refine ⟨fun w'=>∃M',St w [] w' (.arr g3 87 (bv id)::M'),⟨_,k12.drew⟩,_,fun w' ⟨_,k⟩=>(h.same k.chg).top.ldP (i:=0) (o:=2) rfl (tV _) (qF _) (jW ok.kl _ _ _ _) (by simp [ok.kl]),_,fun w' ⟨_,k⟩=>k.ldA (i:=0) (l:=bv id) rfl (DQ _) (zz _) (by simp [hid]),(GC r.K pa pn pc p _ ok.kl (hK.an (h.chg.trans k12.drew.chg)) (k12.drew.rd (i:=3) rfl) (by omega)).mono ?_⟩
     rintro e w13 ⟨rfl,c13⟩
     have k13:=k12.drew.same c13
     refine ⟨_,rfl,_,fun _ h=>h,⟨_,k13⟩,_,fun w' _=>(On _ _ _ _ (by simp [idF]) hid w').2,fun hne=>?_,fun heq=>?_⟩
     · exact fin 10 k13 (by rw [hgm];simp only;rw [if_neg (by simpa using hne)])
     · have:getM r m id=(none,p):=by rw [hgm];simp only;rw [if_pos (by simpa using heq)]
       rw [this,hpn]
       exact ⟨pa,pc,rfl,k13.sub (List.Sublist.cons _ (List.Sublist.cons _ (List.Sublist.cons _ (List.Sublist.refl _))))⟩
end

end Go.Proofs.YtpmhjnhgpplmnaaGreatDoor
end

section
namespace Go.Proofs.YtpmhjnhgpplmnaaGreatDoor
open Go Sx
set_option maxRecDepth 8000

section
variable {P:Program} {α:Type} {key val:α→Value} {kid:α→List UInt8} {KT:TypeId} {n:Nat} {w:World} {g:Nat} {es:Array MapEntry} {clock:Nat} {M:List α} {mt ET:TypeId}
theorem Sx.bD.GS (hE:bD key val es clock M) (hK:zY P KT n key kid M) (hm:P.underlying mt=some (.map KT ET)) (hg:w.heap[g]?=some (.map es clock)) {id:List UInt8} (hl:id.length=n) {z:Value} (hz:∀w,(zeroValue ET).run P w=.ok z w):
   (Instr.lookup mt (.map (some g)) (.agg (bv id).toArray) false).run P w=.ok (((dQ kid M id).map fun p=>val p.2).getD z) w:=by
 have hf:=hE.find hK hl w
 have hc:=hK.eq.chk hl es.isEmpty w
 cases h:dQ kid M id with
 | none=>
   rw [h] at hf
   simp [Instr.lookup,getObj,run_underlying hm,Sem.run,hg,Result.andThen,hc,hf,hz]
 | some p=>
   rw [h] at hf
   simp [Instr.lookup,getObj,run_underlying hm,Sem.run,hg,Result.andThen,hc,hf]
theorem Sx.bD.push (hE:bD key val es clock M) {x:α} :bD key val (es.push { key:=key x,val:=val x,born:=clock }) (clock+1) (M++ [x]):=by
 refine ⟨?_,?_,?_⟩
 · rw [Array.toList_push,List.map_append,List.map_append,hE.Bl]
   simp
 · rw [Array.toList_push,List.map_append,List.nodup_append]
   refine ⟨hE.born,by simp,?_⟩
   intro a ha b hb
   simp only [List.map_cons,List.map_nil,List.mem_singleton] at hb
   obtain ⟨x,hx,rfl⟩:=List.mem_map.1 ha
   have:=hE.old x hx
   omega
 · intro x hx
   rw [Array.toList_push,List.mem_append,List.mem_singleton] at hx
   rcases hx with hx | rfl
   · have:=hE.old x hx;omega
   · show clock<clock+1;omega
theorem Sx.bD.entry (hE:bD key val es clock M) (hK:zY P KT n key kid M) (hm:P.underlying mt=some (.map KT ET)) (hg:w.heap[g]?=some (.map es clock)) {id:List UInt8} (hl:id.length=n) (hno:dQ kid M id=none) {z:Value} (hz:∀w,(zeroValue ET).run P w=.ok z w):
   (Instr.mapEntry mt (.map (some g)) (.agg (bv id).toArray)).run P w=.ok (.tuple #[z,.int .i64 (clock:Int)]) (w.putObj g (.map (es.push { key:=.agg (bv id).toArray,val:=z,born:=clock }) (clock+1))):=by
 have hf:=hE.find hK hl w
 rw [hno] at hf
 have hc:=hK.eq.chk hl false w
 have hset:∀o:Obj,(setObj g o).run P w=.ok () (w.putObj g o):=fun o=>by simp [setObj,Sem.run,hg,World.putObj]
 simp only [Instr.mapEntry,getObj,Sem.run_bind,run_underlying hm,Result.andThen_ok,Sem.run,hg,Result.andThen,hc,hf,Option.map_none,hz]
 rw [hset]
 rfl
theorem wq (hold:∀x∈es.toList,x.born<clock) {k v v':Value} (hg:w.heap[g]?=some (.map (es.push { key:=k,val:=v,born:=clock }) (clock+1))):
   (Instr.entryStore mt (.map (some g)) (.int .i64 (clock:Int)) v').run P w=.ok () (w.putObj g (.map (es.push { key:=k,val:=v',born:=clock }) (clock+1))):=by
 have hset:∀o:Obj,(setObj g o).run P w=.ok () (w.putObj g o):=fun o=>by simp [setObj,Sem.run,hg,World.putObj]
 have hix:(es.push { key:=k,val:=v,born:=clock }).findIdx? (fun e=>(e.born:Int)==(clock:Int))=some es.size:=by
   rw [Array.findIdx?_push]
   have:es.findIdx? (fun e=>(e.born:Int)==(clock:Int))=none:=by
     rw [Array.findIdx?_eq_none_iff]
     intro x hx
     have:=hold x (by simpa using hx)
     simp;omega
   rw [this]
   simp
 have hmod:(es.push { key:=k,val:=v,born:=clock }).modify es.size (fun e=> { e with val:=v' })=es.push { key:=k,val:=v',born:=clock } :=by
   apply Array.ext
   · simp
   · intro i h1 h2
     rw [Array.getElem_modify]
     by_cases hi:es.size=i
     · subst hi;simp
     · rw [if_neg hi]
       have:i<es.size:=by simp at h2;omega
       rw [Array.getElem_push_lt this,Array.getElem_push_lt this]
 have hai:(asInt (.int .i64 (clock:Int))).run P w=.ok (clock:Int) w:=by simp [asInt,asIntOf]
 simp only [Instr.entryStore,getObj,Sem.run_bind,Sem.run,hg,Result.andThen,hai,hix,hmod,Result.andThen_ok]
 exact hset _
end

def skK (p:List UInt8×Int):Value:=.agg (bv p.1).toArray
def skV (p:List UInt8×Int):Value:=.int .i64 p.2
theorem KY:Tryz.prog.underlying 301=some (.map 87 3):=Tryz.underlying301
def jB (ids:List (List UInt8)):List (List UInt8×Int):=ids.map fun i=>(i,1)
theorem MV {M:List (List UInt8×Int)} (h:∀x∈M,x.1.length=32):zY Tryz.prog 87 32 skK Prod.fst M:=⟨Mm,fun _=>rfl,h⟩
theorem Kx (w:World):(zeroValue 3).run Tryz.prog w=.ok (.int .i64 0) w:=Tryz.zeroValue3 w

theorem Cg (ids:List (List UInt8)) (id:List UInt8):((dQ Prod.fst (jB ids) id).map fun p=>skV p.2).getD (.int .i64 0)=.int .i64 (if ids.contains id then 1 else 0):=by
 cases h:dQ Prod.fst (jB ids) id with
 | none=>
   have hn:=kS h
   have:ids.contains id=false:=by
     rw [←Bool.not_eq_true,List.contains_iff_mem]
     intro hm
     exact hn (id,1) (List.mem_map.2 ⟨id,hm,rfl⟩) rfl
   rw [this];rfl
 | some p=>
   obtain ⟨j,x⟩:=p
   obtain ⟨h1,h2⟩:=fm h
   obtain ⟨y,hy,rfl⟩:=List.mem_map.1 (List.mem_of_getElem? h1)
   have:ids.contains id=true:=by rw [List.contains_iff_mem,←h2];exact hy
   rw [this];rfl
theorem HB {ids:List (List UInt8)} {id:List UInt8} (h:ids.contains id=false):dQ Prod.fst (jB ids) id=none:=by
 cases hf:dQ Prod.fst (jB ids) id with
 | none=>rfl
 | some p=>
   obtain ⟨j,x⟩:=p
   obtain ⟨h1,h2⟩:=fm hf
   obtain ⟨y,hy,rfl⟩:=List.mem_map.1 (List.mem_of_getElem? h1)
   rw [←Bool.not_eq_true,List.contains_iff_mem] at h
   exact absurd (h2 ▸ hy) h
theorem Ip {ids:List (List UInt8)} {id:List UInt8} (h:ids.contains id=false):((dQ Prod.fst (jB ids++ [(id,0)]) id).map fun p=>skV p.2).getD (.int .i64 0)=.int .i64 0:=by
 have hn:∀x∈jB ids,¬(x.1==id)=true:=fun x hx e=>by
   obtain ⟨y,hy,rfl⟩:=List.mem_map.1 hx
   rw [←Bool.not_eq_true,List.contains_iff_mem] at h
   exact h ((by simpa using e:y=id) ▸ hy)
 unfold dQ
 have:(jB ids++ [(id,0)]).findIdx? (fun r:List UInt8×Int=>r.1==id)=some (jB ids).length:=by
   rw [List.findIdx?_append]
   have:(jB ids).findIdx? (fun r:List UInt8×Int=>r.1==id)=none:=List.findIdx?_eq_none_iff.2 fun x hx=>by simpa using hn x hx
   rw [this];simp
 rw [this]
 simp [skV]

def kr (S:Refs) (drop:List Int) (id:List UInt8):Bool:=match findF S id with
 | some x=> !drop.contains x.pack
 | none=>false
def bJ (K:List UInt8) (S:Refs) (drop:List Int) (st:List Itm×List (List UInt8)) (p:List UInt8):List Itm×List (List UInt8):=
 if st.2.contains (idF K p)||kr S drop (idF K p) then st else (st.1++ [(idF K p,dA K 2 (idF K p) p)],st.2++ [idF K p])
def fS (K:List UInt8) (S:Refs) (drop:List Int) (ps:List (List UInt8)):List Itm×List (List UInt8):=ps.foldl (bJ K S drop) ([],[])
def aQ (K:List UInt8) (S:Refs) (drop:List Int) (ps:List (List UInt8)):List Itm:=(fS K S drop ps).1
theorem Du (K:List UInt8) (S:Refs) (drop:List Int) (ps:List (List UInt8)) (p:List UInt8):fS K S drop (ps++ [p])=bJ K S drop (fS K S drop ps) p:=by simp [fS]
theorem yI (K:List UInt8) (S:Refs) (drop:List Int):∀(ps:List (List UInt8)) (st:List Itm×List (List UInt8)),(∀x∈st.2,x.length=32)→(ps.foldl (bJ K S drop) st).1.length≤st.1.length+ps.length∧∀x∈(ps.foldl (bJ K S drop) st).2,x.length=32
 | [],st,h=>⟨by simp,h⟩
 | p::ps,st,h=>by
   have h2:(bJ K S drop st p).1.length≤st.1.length+1∧∀x∈(bJ K S drop st p).2,x.length=32:=by
     rw [bJ]
     split
     · exact ⟨by omega,h⟩
     · refine ⟨by simp,fun x hx=>?_⟩
       simp only [List.mem_append,List.mem_singleton] at hx
       rcases hx with hx | rfl
       · exact h x hx
       · simp [idF]
   have ih:=yI K S drop ps _ h2.2
   refine ⟨?_,ih.2⟩
   have:=ih.1
   rw [List.foldl_cons,List.length_cons]
   omega
theorem yE (K:List UInt8) (S:Refs) (drop:List Int) (ps:List (List UInt8)):(fS K S drop ps).1.length≤ps.length∧∀x∈(fS K S drop ps).2,x.length=32:=by
 have:=yI K S drop ps ([],[]) (by simp)
 simpa [fS] using this
def vV (x:ItD):Res:=.row 5 1 (.slice x.a x.n x.c) x.n (bv x.fD)

end Go.Proofs.YtpmhjnhgpplmnaaGreatDoor
end

section
namespace Go.Proofs.YtpmhjnhgpplmnaaGreatDoor
open Go Sx
set_option maxRecDepth 8000

theorem Ov:gF Tryz.prog 212 303 33 56 (.agg (itC it0).toArray):=⟨by kernel_rfl,⟨Tryz.t303,by kernel_rfl,by kernel_rfl,by kernel_rfl,by kernel_rfl⟩,rfl,by decide⟩
theorem AY:Tryz.prog.built 303=fun parts=>Instr.fill (fun i=>(#[(0,32),(32,1)]:Array (Nat×Nat))[i]?) (itC it0).toArray parts:=by kernel_rfl
theorem AQ (id:List UInt8) (a:Option Addr) (n c:Nat) (w:World) (hl:id.length=32):(Instr.build 303 #[(0,.agg (bv id).toArray),(1,.slice a n c)]).run Tryz.prog w=.ok (.agg (bv id++ [Value.slice a n c]).toArray) w:=by
 apply run_build
 rw [AY]
 show Instr.fill _ _ [(0,_),(1,_)]=_
 have hz:(itC it0).toArray=(bv (List.replicate 32 0)++ [Value.slice none 0 0]).toArray:=rfl
 rw [hz,aA (off:=0) (sz:=32) rfl (by simp [Value.cells,hl]) (by simp),aA (off:=32) (sz:=1) rfl rfl (by simp [Value.cells,hl])]
 have hbl:(bv id).length=32:=by simp [hl]
 simp [Instr.fill,Value.cells,List.take_append,List.drop_append,hbl,List.take_of_length_le,List.drop_of_length_le,hl]

section
variable {w0 w w':World} {N:List Res} {gd gr:Nat} {m:af} {r:gZ} {q:wD}

set_option maxHeartbeats 4000000 in
theorem ER (a1:Option Addr) (n1 c1:Nat) (vs:List Value) (ls:List (List UInt8)) (a2:Option Addr) (n2 c2:Nat) (drop:List Int) (ok:ROk r q) (h:ah w0 [] w gd q.ps m (N++q.T gd gr r)) (hK:cR w0)
   (hra:Rd w a1 n1 c1 1 vs) (hrb:eL w vs ls) (hrz:RdZ w a2 n2 c2 drop) (hn1:n1≤1000000) (hn2:n2≤1000000) (hls:∀l∈ls,l.length≤67000000):
   Calls Tryz.prog 127 #[pV gr,.slice a1 n1 c1,.slice a2 n2 c2] w fun e w'=>∃(a:Option Addr) (c:Nat) (O:List ItD),e=.returned (.slice a O.length c)∧O.map ItD.t=aQ r.K r.S drop ls∧St w [] w' (.row 303 33 (.slice a O.length c) O.length (O.flatMap itC)::O.map vV):=by
 have hvl:vs.length=n1:=by have:=hra.len;omega
 have hll:ls.length=n1:=by rw [←hrb.len];exact hvl
 apply ry
 have k0:St w [] (w.alloc (.map #[] 0)) [.blk w.heap.size (.map #[] 0)]:=(St.start w).add (Chg.alloc _ _) (heap_alloc_new w _) (by simp [Res.fp])
 obtain ⟨gs,hgs⟩:∃gs,w.heap.size=gs:=⟨_,rfl⟩
 rw [hgs] at k0
 have ldK:∀ {w':World},Chg [] w w'→(Instr.loadAt 41 (.pointer (some ⟨gr,0+2,none⟩))).run Tryz.prog w'=.ok (.agg (bv r.K).toArray) w':=fun hc=>(h.same hc).top.ldP (i:=0) (o:=2) rfl (tV _) (qF _) (jW ok.kl _ _ _ _) (by simp [ok.kl])
 have ldX:∀ {w':World},Chg [] w w'→(Instr.loadAt 143 (.pointer (some ⟨gr,0+1,none⟩))).run Tryz.prog w'=.ok (pV q.gi) w':=fun hc=>(h.same hc).top.ldL (i:=0) (o:=1) rfl (LY _) rfl rfl
 let L (a:Option Addr) (c:Nat) (O:List ItD) (es:Array MapEntry) (ck:Nat):List Res:=.blk gs (.map es ck):: .row 303 33 (.slice a O.length c) O.length (O.flatMap itC)::O.map vV
 have k1:St w [] (w.alloc (.map #[] 0)) (L none 0 [] #[] 0):=k0.b8 303 33
 refine ⟨.map (some gs),_,by rw [←hgs];rfl,fun a n c x w'=>∃(i:Nat) (O:List ItD) (es:Array MapEntry) (ck:Nat),x=(i:Int)∧i≤n1∧n=O.length∧O.map ItD.t=(fS r.K r.S drop (ls.take i)).1∧bD skK skV es ck (jB (fS r.K r.S drop (ls.take i)).2)∧St w [] w' (L a c O es ck),fun _ _ _ x _=>n1-x.toNat,⟨0,[], #[],0,rfl,by omega,rfl,by simp [fS],by simpa [fS,jB] using bD.nil skK skV,k1⟩,?_⟩
 rintro a n c x w2 ⟨i,O,es,ck,rfl,hi,rfl,hO,hE,k2⟩
 refine ⟨fun hlt=>?_,fun hge=>?_⟩
 rotate_left
 · have hi':i=n1:=by simp at hge;omega
   rw [hi',←hll,List.take_length] at hO
   exact ⟨a,c,O,rfl,hO,k2.sub (List.Sublist.cons _ (List.Sublist.refl _))⟩
 have hi':i<n1:=by simp at hlt;omega
 obtain ⟨b,o,pa,pn,pc,hab,hv,hpr,hld⟩:=ixS hra.cells hrb (i:=i) (by omega)
 obtain ⟨p,hp⟩:∃p,ls.getD i []=p:=⟨_,rfl⟩
 have hpm:ls[i]?=some p:=by rw [←hp,List.getD,List.getElem?_eq_getElem (by omega)];simp
 rw [hp] at hpr
 have hpl:p.length≤67000000:=hls p (List.mem_of_getElem? hpm)
 have hpn:p.length=pn:=hpr.bh
 obtain ⟨st,hst⟩:∃st,fS r.K r.S drop (ls.take i)=st:=⟨_,rfl⟩
 have hlen:=yE r.K r.S drop (ls.take i)
 have hnext:fS r.K r.S drop (ls.take (i+1))=bJ r.K r.S drop st p:=by rw [List.take_add_one,hpm,←hst];exact Du _ _ _ _ _
 rw [hst] at hO hE hlen
 have hOl:O.length≤i:=by
   have h1:=congrArg List.length hO
   rw [List.length_map] at h1
   have h2:=hlen.1
   have h3:(ls.take i).length≤i:=by simp;omega
   omega
 refine ⟨b,o,hab,by omega,by omega,pa,pn,pc,hld w2 (hra.an k2.chg).cells,_,ldK k2.chg,(GC r.K pa pn pc p w2 ok.kl (hK.an (h.chg.trans k2.chg)) (hpr.an k2.chg) (by omega)).mono ?_⟩
 rintro e w3 ⟨rfl,c3⟩
 obtain ⟨id,hid⟩:∃id,idF r.K p=id:=⟨_,rfl⟩
 have hidl:id.length=32:=by rw [←hid];simp [idF]
 rw [hid]
 have k3:=k2.same c3
 obtain ⟨g11,w4,r4,k4⟩:=k3.az idZ
 obtain ⟨w5,r5,k5⟩:=k4.stA (i:=(L a c O es ck).length) (v:=bv id) List.getElem?_concat_length (zz _) (by simp) (by simp [hidl]) (aG _)
 have k5:St w [] w5 (L a c O es ck++ [.arr g11 87 (bv id)]):=by
   have e:(L a c O es ck++ [Res.arr g11 87 (bv (List.replicate 32 0))]).set (L a c O es ck).length (.arr g11 87 (bv id))=L a c O es ck++ [.arr g11 87 (bv id)]:=by simp
   rw [←e];exact k5
 obtain ⟨y,hy⟩:∃y,findF r.S id=y:=⟨_,rfl⟩
 refine ⟨_,rfl,g11,w4,r4,w5,r5,fun g12 o12 ok12 w'=>o12=0∧ok12=y.isSome∧St w [] w' (L a c O es ck++ [.arr g11 87 (bv id),.arr g12 100 (aC (y.getD ep))]),?_,?_⟩
 · have k5d:=k5.drew
   have S1:∀ {w':World} {M':List Res} {j:Nat},St w [] w' M'→M'[j]?=some (.arr g11 87 (bv id))→(Instr.loadAt 87 (.pointer (some ⟨g11,0,none⟩))).run Tryz.prog w'=.ok (.agg (bv id).toArray) w':=fun k hj=>k.ldA hj (DQ _) (zz _) (by simp [hidl])
   have e11:(L a c O es ck++ [Res.arr g11 87 (bv id)])[(L a c O es ck).length]?=some (.arr g11 87 (bv id)):=List.getElem?_concat_length
   have e12:∀R,((L a c O es ck++ [Res.arr g11 87 (bv id)])++ [R])[(L a c O es ck).length]?=some (.arr g11 87 (bv id)):=fun R=>by rw [List.getElem?_append_left (by simp)];exact e11
   have fin:∀ {w':World} {g:Nat},St w [] w' ((L a c O es ck++ [.arr g11 87 (bv id)])++ [.arr g 100 (aC ep)])→∃w'',(Instr.storeAt 100 (.pointer (some ⟨g,0,none⟩)) (.agg (aC (y.getD ep)).toArray)).run Tryz.prog w'=.ok () w''∧St w [] w'' (L a c O es ck++ [.arr g11 87 (bv id),.arr g 100 (aC (y.getD ep))]):=fun {w' g} k=>by
     obtain ⟨w'',r'',k''⟩:=k.stA (i:=(L a c O es ck++ [Res.arr g11 87 (bv id)]).length) (v:=aC (y.getD ep)) List.getElem?_concat_length (rfS _) (aI _) (aI _) (dR _)
     have e:((L a c O es ck++ [Res.arr g11 87 (bv id)])++ [Res.arr g 100 (aC ep)]).set (L a c O es ck++ [Res.arr g11 87 (bv id)]).length (.arr g 100 (aC (y.getD ep)))=L a c O es ck++ [.arr g11 87 (bv id),.arr g 100 (aC (y.getD ep))]:=by simp
     exact ⟨w'',r'',by rw [←e];exact k''⟩
   refine ⟨fun w'=>∃(M':List Res) (j:Nat),St w [] w' M'∧M'[j]?=some (.arr g11 87 (bv id)),⟨_,_,k5d,e11⟩,_,_,fun w' ⟨_,_,k,_⟩=>ldX k.chg,_,fun w' ⟨_,_,k,hj⟩=>S1 k hj,?_,?_⟩
   · refine (nj q.gi q.gm r.S id hidl (ok.idx (h.same k5d.chg))).mono ?_
     rintro e w6 ⟨rfl,c6⟩
     rw [hy]
     have k6:=k5d.same c6
     obtain ⟨g12,w7,r7,k7⟩:=k6.az rfZ
     obtain ⟨w8,r8,k8⟩:=fin k7
     exact ⟨_,_,rfl,_,fun _ h=>h,⟨_,_,k6,e11⟩,g12,w7,r7,_,fun _ h=>h,⟨_,_,k7,e12 _⟩,w8,r8,rfl,rfl,k8⟩
   · obtain ⟨g12,w7,r7,k7⟩:=k5d.az rfZ
     refine ⟨g12,w7,r7,_,fun _ h=>h,⟨_,_,k7,e12 _⟩,(nj q.gi q.gm r.S id hidl (ok.idx (h.same k7.chg))).mono ?_⟩
     rintro e w6 ⟨rfl,c6⟩
     rw [hy]
     have k6:=k7.same c6
     obtain ⟨w8,r8,k8⟩:=fin k6
     exact ⟨_,_,rfl,_,fun _ h=>h,⟨_,_,k6,e12 _⟩,w8,r8,rfl,rfl,k8⟩
 rintro g12 o12 ok12 w12 ⟨rfl,rfl,k12⟩
 have e11:(L a c O es ck++ [Res.arr g11 87 (bv id),.arr g12 100 (aC (y.getD ep))])[(L a c O es ck).length]?=some (.arr g11 87 (bv id)):=by rw [List.getElem?_append_right (Nat.le_refl _)];simp
 have e12:(L a c O es ck++ [Res.arr g11 87 (bv id),.arr g12 100 (aC (y.getD ep))])[(L a c O es ck).length+1]?=some (.arr g12 100 (aC (y.getD ep))):=by rw [List.getElem?_append_right (by omega)];simp
 have e0:(L a c O es ck++ [Res.arr g11 87 (bv id),.arr g12 100 (aC (y.getD ep))])[0]?=some (.blk gs (.map es ck)):=rfl
 have S1:∀ {w':World} {M':List Res} {j:Nat},St w [] w' M'→M'[j]?=some (.arr g11 87 (bv id))→(Instr.loadAt 87 (.pointer (some ⟨g11,0,none⟩))).run Tryz.prog w'=.ok (.agg (bv id).toArray) w':=fun k hj=>k.ldA hj (DQ _) (zz _) (by simp [hidl])
 have hsk:∀x∈jB st.2,x.1.length=32:=fun x hx=>by
   obtain ⟨z,hz,rfl⟩:=List.mem_map.1 hx
   exact hlen.2 z hz
 have hlk:(Instr.lookup 301 (.map (some gs)) (.agg (bv id).toArray) false).run Tryz.prog w12=.ok (.int .i64 (if st.2.contains id then 1 else 0)) w12:=by
   rw [hE.GS (MV hsk) KY (k12.holds 0 _ e0) hidl Kx,Cg]
 refine ⟨fun s w'=>s=(st.2.contains id||kr r.S drop id)∧Chg [] w w'∧St w [] w' (L a c O es ck++ [.arr g11 87 (bv id),.arr g12 100 (aC (y.getD ep))]),⟨_,S1 k12 e11,_,hlk,fun hpos=>?_,fun hnp=>⟨fun hok=>?_,fun hno=>?_⟩⟩,?_⟩
 · have:st.2.contains id=true:=by
     cases hc:st.2.contains id with
     | true=>rfl
     | false=>rw [hc] at hpos;simp at hpos
   exact ⟨by rw [this];rfl,k12.chg,k12⟩
 · have hc:st.2.contains id=false:=by
     cases hc:st.2.contains id with
     | false=>rfl
     | true=>rw [hc] at hnp;simp at hnp
   obtain ⟨x,hx⟩:=Option.isSome_iff_exists.1 hok
   subst hx
   refine ⟨_,(u6 k12 e12).1,(kK a2 n2 c2 drop x.pack w12 (hrz.an k12.chg) (by omega)).mono ?_⟩
   rintro e w13 ⟨rfl,rfl⟩
   exact ⟨_,rfl,by rw [hc,kr,hy];rfl,k12.chg,k12⟩
 · have hc:st.2.contains id=false:=by
     cases hc:st.2.contains id with
     | false=>rfl
     | true=>rw [hc] at hnp;simp at hnp
   have hyn:y=none:=by simpa using hno
   exact ⟨by rw [hc,kr,hy,hyn];rfl,k12.chg,k12⟩
 rintro s w14 ⟨hs,_,k14⟩
 refine ⟨fun hT=>?_,fun hF=>?_⟩
 · rw [hs] at hT
   have hstep:bJ r.K r.S drop st p=st:=by rw [bJ,hid,if_pos hT]
   refine ⟨⟨i+1,O,es,ck,aq hi' (by omega),by omega,rfl,by rw [hnext,hstep];exact hO,by rw [hnext,hstep];exact hE,k14.sub (List.sublist_append_left _ _)⟩,aB hi' (by omega)⟩
 rw [hs] at hF
 have hcs:st.2.contains id=false:=by simp only [Bool.or_eq_false_iff] at hF;exact hF.1
 have hstep:bJ r.K r.S drop st p=(st.1++ [(id,dA r.K 2 id p)],st.2++ [id]):=by rw [bJ,hid,if_neg (by rw [hF];simp)]
 have k14d:=k14.drew
 refine ⟨fun w'=>∃(M':List Res) (j:Nat) (es:Array MapEntry) (ck:Nat) (Ms:List (List UInt8×Int)),St w [] w' M'∧M'[j]?=some (.arr g11 87 (bv id))∧M'[0]?=some (.blk gs (.map es ck))∧bD skK skV es ck Ms∧(∀x∈Ms,x.1.length=32)∧((dQ Prod.fst Ms id).map fun p=>skV p.2).getD (.int .i64 0)=.int .i64 0,⟨_,_,_,_,_,k14d,e11,e0,hE,hsk,by rw [Cg,hcs];rfl⟩,_,fun w' ⟨_,_,_,_,_,k,hj,_⟩=>S1 k hj,0,fun w' ⟨_,_,es',ck',_,k,_,h0,hE',hk',hz⟩=>by rw [hE'.GS (MV hk') KY (k.holds 0 _ h0) hidl Kx,hz],.int .i64 0,(ck:Int),_,hE.entry (MV hsk) KY (k14d.holds 0 _ e0) hidl (HB hcs) Kx,?_⟩
 have hpE:bD skK skV (es.push { key:=.agg (bv id).toArray,val:=.int .i64 0,born:=ck }) (ck+1) (jB st.2++ [(id,0)]):=hE.push (x:=(id,0))
 have hpE1:bD skK skV (es.push { key:=.agg (bv id).toArray,val:=.int .i64 1,born:=ck }) (ck+1) (jB (st.2++ [id])):=by
   have:=hE.push (x:=(id,1))
   rw [show jB (st.2++ [id])=jB st.2++ [(id,1)] by simp [jB]]
   exact this
 have k15:=St.uV k14d (o':=.map (es.push { key:=.agg (bv id).toArray,val:=.int .i64 0,born:=ck }) (ck+1)) e0
 have k15:St w [] _ (L a c O (es.push { key:=.agg (bv id).toArray,val:=.int .i64 0,born:=ck }) (ck+1)++ [.arr g11 87 (bv id),.arr g12 100 (aC (y.getD ep))]):=k15
 have hll2:∀es' ck',(L a c O es' ck').length=(L a c O es ck).length:=fun _ _=>rfl
 have e11':∀es' ck',(L a c O es' ck'++ [Res.arr g11 87 (bv id),.arr g12 100 (aC (y.getD ep))])[(L a c O es ck).length]?=some (.arr g11 87 (bv id)):=fun es' ck'=>by rw [List.getElem?_append_right (by rw [hll2 es' ck'];exact Nat.le_refl _),hll2 es' ck',Nat.sub_self];rfl
 refine ⟨_,fun _ h=>h,⟨_,_,_,_,_,k15,e11' _ _,rfl,hpE,fun x hx=>?_,Ip hcs⟩,_,wq hE.old (k15.holds 0 _ rfl),?_⟩
 · rcases List.mem_append.1 hx with hx | hx
   · exact hsk x hx
   · rw [List.mem_singleton.1 hx];exact hidl
 have k16:=St.uV k15 (i:=0) (o':=.map (es.push { key:=.agg (bv id).toArray,val:=.int .i64 1,born:=ck }) (ck+1)) rfl
 have k16:St w [] _ (L a c O (es.push { key:=.agg (bv id).toArray,val:=.int .i64 1,born:=ck }) (ck+1)++ [.arr g11 87 (bv id),.arr g12 100 (aC (y.getD ep))]):=k16
 have k16d:=k16.drew
 refine ⟨fun w'=>∃(M':List Res) (j:Nat),St w [] w' M'∧M'[j]?=some (.arr g11 87 (bv id)),⟨_,_,k16d,e11' _ _⟩,by omega,by omega,_,fun w' ⟨_,_,k,hj⟩=>S1 k hj,_,fun w' ⟨_,_,k,_⟩=>ldK k.chg,(pL r.K 2 _ _ _ id pa pn pc p _ ok.kl (hK.an (h.chg.trans k16d.chg)) (k16d.rdA (e11' _ _) (by simp [hidl])) (hpr.an k16d.chg) (by omega)).mono ?_⟩
 rintro e w17 ⟨ba,bn,bc,rfl,f17⟩
 have hbn:=f17.2.1
 have k17:=f17.add k16d
 have ex:∀R,((L a c O (es.push { key:=.agg (bv id).toArray,val:=.int .i64 1,born:=ck }) (ck+1)++ [Res.arr g11 87 (bv id),.arr g12 100 (aC (y.getD ep))])++R)[(L a c O es ck).length]?=some (.arr g11 87 (bv id)):=fun R=>by rw [List.getElem?_append_left (by rw [List.length_append];exact Nat.lt_add_of_pos_right (by simp))];exact e11' _ _
 obtain ⟨g18,w18,va,vc,w19,r18,r19,k19,k18⟩:=k17.tP (i:=1) Ov rfl (bv id++ [.slice ba bn bc]) (by simp [hidl]) (by decide) (fun v hv=>by
   rcases List.mem_append.1 hv with hv | hv
   · exact aG _ v hv
   · rw [List.mem_singleton.1 hv];rfl) (by omega) (by rw [show maxLen=9223372036854775807 from rfl];omega)
 refine ⟨_,_,_,rfl,_,fun _ h=>h,⟨_,_,k17,ex _⟩,_,fun w' _=>AQ id ba bn bc w' hidl,_,_,_,w18,r18,_,fun _ h=>h,⟨_,_,k18,ex _⟩,_,_,_,w19,r19,_,fun _ h=>h,⟨_,_,k19,by rw [List.getElem?_set_ne (by show 1≠(O.map vV).length+2;omega)];exact ex _⟩,?_⟩
 obtain ⟨x,hx⟩:∃x:ItD,(⟨id,ba,bn,bc,dA r.K 2 id p,hidl⟩:ItD)=x:=⟨_,rfl⟩
 refine ⟨⟨i+1,O++ [x],_,_,aq hi' (by omega),by omega,by simp,?_,by rw [hnext,hstep];exact hpE1,?_⟩,aB hi' (by omega)⟩
 · rw [hnext,hstep,List.map_append,hO,←hx];rfl
 · have e1:(O++ [x]).flatMap itC=O.flatMap itC++(bv id++ [.slice ba bn bc]):=by rw [List.flatMap_append,←hx,List.flatMap_cons,List.flatMap_nil,List.append_nil];rfl
   show St w [] w19 (.blk gs _:: .row 303 33 (.slice va (O++ [x]).length vc) (O++ [x]).length ((O++ [x]).flatMap itC)::(O++ [x]).map vV)
   rw [e1,List.length_append,List.map_append,←hx]
   exact k19.sub (List.Sublist.cons_cons _ (List.Sublist.cons_cons _ (List.Sublist.append (List.sublist_append_left _ _) (List.Sublist.refl _))))
end

end Go.Proofs.YtpmhjnhgpplmnaaGreatDoor
end

section
namespace Go.Proofs.YtpmhjnhgpplmnaaGreatDoor
open Go Sx
set_option maxRecDepth 8000

def cu (drop:List Int) (ps:List PkD):List PkD:=ps.filter fun p=>drop.contains p.num
def bB (drop:List Int) (ps:List PkD):List PkD:=ps.filter fun p=> !drop.contains p.num
def yK (C:bR) (grows:Bool):Bool:=C.gen==1099511627776||(grows&&C.next==1099511627776)
def cE (C:bR) (snaps:List dY) (drop:List Int) (grows:Bool):bR:=⟨C.gen+1,if grows then C.next+1 else C.next,C.set,snaps,bB drop C.aj++if grows then [⟨C.next,0,0⟩] else []⟩
noncomputable def jK (C:bR) (snaps:List dY) (drop:List Int) (grows:Bool):Option Int:=
 if yK C grows then some 20 else if (cE C snaps drop grows).aj.length>1024 then some 19 else if aH (cE C snaps drop grows) then none else some 28
theorem Fe (drop:List Int) (ps:List PkD) (p:PkD):cu drop (ps++ [p])=if drop.contains p.num then cu drop ps++ [p] else cu drop ps:=by
 unfold cu;rw [List.filter_append];by_cases h:p.num∈drop<;>simp [h]
theorem Fc (drop:List Int) (ps:List PkD) (p:PkD):bB drop (ps++ [p])=if drop.contains p.num then bB drop ps else bB drop ps++ [p]:=by
 unfold bB;rw [List.filter_append];by_cases h:p.num∈drop<;>simp [h]
theorem z7 (drop:List Int) (ps:List PkD):(cu drop ps).length≤ps.length:=List.length_filter_le _ _
theorem AL (drop:List Int) (ps:List PkD):(bB drop ps).length≤ps.length:=List.length_filter_le _ _

def xO (g n:Int) (s:gJ) (u v:Value):List Value:=[.int .i64 g,.int .i64 n]++(cq s++ [u,v])
theorem Dl (g n:Int) (s:gJ) {u v:Value} (hu:u.oneCell'=true) (hv:v.oneCell'=true):∀x∈xO g n s u v,x.oneCell'=true:=fun x hx=>by
 simp only [xO,cq,List.mem_append,List.mem_cons,List.not_mem_nil,or_false] at hx
 rcases hx with (rfl | rfl) | (rfl | rfl | rfl | rfl | rfl) | rfl | rfl<;>first | rfl | assumption
theorem Oj (w:World):(zeroValue 91).run Tryz.prog w=.ok (.agg (pkC ⟨0,0,0⟩).toArray) w:=Tryz.zeroValue91 w
theorem OL (w:World):(sizeOf 25).run Tryz.prog w=.ok 1 w:=Tryz.sizeOf25 w
theorem Nv (w:World):(sizeOf 45).run Tryz.prog w=.ok 1 w:=Tryz.sizeOf45 w
theorem KP (w:World):(isAgg 45).run Tryz.prog w=.ok false w:=Tryz.isAgg45 w
theorem NW (w:World):(sizeOf 3).run Tryz.prog w=.ok 1 w:=Tryz.sizeOf3 w
theorem sL (p:PkD):∀v∈pkC p,v.oneCell'=true:=fun v hv=>by
 simp only [pkC,List.mem_cons,List.not_mem_nil,or_false] at hv
 rcases hv with rfl | rfl | rfl<;>rfl
theorem Fw (x:Int) (w:World):(Instr.build 91 #[(0,.int .i64 x)]).run Tryz.prog w=.ok (.agg (pkC ⟨x,0,0⟩).toArray) w:=by
 have hb:Tryz.prog.built 91=fun parts=>Instr.fill (fun i=>(#[(0,1),(1,1),(2,1)]:Array (Nat×Nat))[i]?) ([.int .i64 0,.int .i64 0,.int .i64 0]:List Value).toArray parts:=by kernel_rfl
 apply run_build
 rw [hb]
 show Instr.fill _ _ [(0,_)]=_
 rw [aA (off:=0) (sz:=1) rfl rfl (by simp [Value.cells])]
 rfl
theorem bH {C:bR} (h:aH C=true):(1≤C.gen∧C.gen≤1099511627776)∧(0≤C.next∧C.next≤1099511627776)∧C.snaps.length≤64∧C.aj.length≤1024:=by
 unfold aH jL at h
 simp only [Bool.and_eq_true,decide_eq_true_eq] at h
 exact ⟨⟨h.1.1.1,h.1.1.2.1⟩,⟨h.1.1.2.2.1,h.1.1.2.2.2⟩,h.1.2.2.1,h.1.2.2.2⟩

section
variable {w0 w w':World} {N:List Res} {gd gr:Nat} {m:af} {r:gZ} {q:wD}

set_option maxHeartbeats 4000000 in
theorem Is (a1:Option Addr) (n1 c1:Nat) (snaps:List dY) (a2:Option Addr) (n2 c2:Nat) (drop:List Int) (grows:Bool) (ok:ROk r q) (h:ah w0 [] w gd q.ps m (N++q.T gd gr r))
   (hs:RdS w a1 n1 c1 snaps) (hsl:∀s∈snaps,s.name.length≤4611686018427387904) (hrz:RdZ w a2 n2 c2 drop) (hn1:n1≤1000000) (hn2:n2≤1000000):
   Calls Tryz.prog 128 #[pV gr,.slice a1 n1 c1,.slice a2 n2 c2,.bool grows] w fun e w'=>∃(cs:List Value) (ga:Option Addr) (gn gc:Nat),e=.returned (.tuple #[.agg cs.toArray,.slice ga gn gc,bk (jK r.C snaps drop grows)])∧cs.length=9∧(∀v∈cs,v.oneCell'=true)∧Chg [] w w'∧
     (jK r.C snaps drop grows=none→∃sa sc pa pc,cs=bV (cE r.C snaps drop grows) sa (cE r.C snaps drop grows).snaps.length sc pa (cE r.C snaps drop grows).aj.length pc∧gn=(cu drop r.C.aj).length∧
       St w [] w' [lB (cE r.C snaps drop grows) sa sc,lF (cE r.C snaps drop grows) pa pc,.row 91 3 (.slice ga gn gc) gn ((cu drop r.C.aj).flatMap pkC)]):=by
 have hbd:=bH ok.chk
 have hsn:snaps.length=n1:=hs.num (by decide)
 subst hsn
 apply sW
 obtain ⟨g8,w1,r1,k1⟩:=(St.start w).az AF
 have k1:St w [] w1 [.arr g8 47 gQ]:=k1
 obtain ⟨g11,w2,r2,k2⟩:=k1.az AF
 have k2:St w [] w2 [.arr g8 47 gQ,.arr g11 47 gQ]:=k2
 obtain ⟨w3,r3,k3⟩:=k2.stA (i:=1) (v:=bV r.C q.sa r.C.snaps.length q.sc q.pa r.C.aj.length q.pc) rfl (fI _) rfl rfl (mm _ _ _ _ _ _ _)
 have k3:St w [] w3 [.arr g8 47 gQ,.arr g11 47 (xO r.C.gen r.C.next r.C.set (.slice q.sa r.C.snaps.length q.sc) (.slice q.pa r.C.aj.length q.pc))]:=k3
 have ending:∀ {w':World} {M:List Res} {g n:Int} {s:gJ} {u v:Value} {ga:Option Addr} {gn gc:Nat} (y:Int),St w [] w' (.arr g8 47 gQ:: .arr g11 47 (xO g n s u v)::M)→u.oneCell'=true→v.oneCell'=true→jK r.C snaps drop grows=some y→
     ∃t,(Instr.loadAt 47 (.pointer (some ⟨g11,0,none⟩))).run Tryz.prog w'=.ok (.agg t) w'∧∃w'',(Instr.storeAt 47 (.pointer (some ⟨g8,0,none⟩)) (.agg t)).run Tryz.prog w'=.ok () w''∧∃r8,(loadVar 47 ⟨g8,0,none⟩).run Tryz.prog w''=.ok r8 w''∧
       (∃(cs:List Value) (ga':Option Addr) (gn' gc':Nat),Ending.returned (.tuple #[r8,.slice ga gn gc,bk (some y)])=.returned (.tuple #[.agg cs.toArray,.slice ga' gn' gc',bk (jK r.C snaps drop grows)])∧cs.length=9∧(∀v∈cs,v.oneCell'=true)∧Chg [] w w''∧
     (jK r.C snaps drop grows=none→∃sa sc pa pc,cs=bV (cE r.C snaps drop grows) sa (cE r.C snaps drop grows).snaps.length sc pa (cE r.C snaps drop grows).aj.length pc∧gn'=(cu drop r.C.aj).length∧
       St w [] w'' [lB (cE r.C snaps drop grows) sa sc,lF (cE r.C snaps drop grows) pa pc,.row 91 3 (.slice ga' gn' gc') gn' ((cu drop r.C.aj).flatMap pkC)])):=fun {w' M g n s u v ga gn gc} y k hu hv hE=>by
   obtain ⟨w'',r'',k''⟩:=k.stA (i:=0) (v:=xO g n s u v) rfl (fI _) rfl rfl (Dl g n s hu hv)
   exact ⟨_,k.ldA (i:=1) (l:=xO g n s u v) rfl (jM _) (fI _) rfl,w'',r'',_,k''.bF (i:=0) (l:=xO g n s u v) rfl (jM _) (fI _) rfl,_,ga,gn,gc,by rw [hE],rfl,Dl g n s hu hv,k''.chg,fun hn=>by rw [hE] at hn;cases hn⟩
 refine ⟨g8,w1,r1,_,(h.same k1.chg).top.ldP (i:=0) (o:=98) rfl (jM _) (fI _) (yp ok.kl _ _ _ _) rfl,g11,w2,r2,w3,r3,fun b w'=>b=yK r.C grows∧w'=w3,⟨_,k3.ldL (i:=1) (o:=0) rfl (jQ _) rfl rfl,fun hg=>⟨by rw [yK,hg];rfl,rfl⟩,fun hg=>⟨fun ha=>⟨_,k3.ldL (i:=1) (o:=1) rfl (jQ _) rfl rfl,by rw [yK,hg,ha];rfl,rfl⟩,fun ha=>⟨by rw [yK,hg,ha];rfl,rfl⟩⟩⟩,?_⟩
 rintro b w4 ⟨hb,rfl⟩
 refine ⟨fun hT=>ending 20 k3 rfl rfl (by rw [jK,←hb,if_pos hT]),fun hF=>?_⟩
 rw [hb] at hF
 have hgen:r.C.gen≠1099511627776:=fun e=>by rw [yK,e] at hF;simp at hF
 obtain ⟨w6,r6,k6⟩:=k3.stL (i:=1) (o:=0) (off:=0) (T:=3) (v:=.int .i64 (IntKind.wrap .i64 (r.C.gen+1))) rfl (NW _) rfl (by show 0<9;decide) rfl
 have hwr:IntKind.wrap .i64 (r.C.gen+1)=r.C.gen+1:=wrap_i64 (by omega) (by omega)
 have k6:St w [] w6 [.arr g8 47 gQ,.arr g11 47 (xO (r.C.gen+1) r.C.next r.C.set (.slice q.sa r.C.snaps.length q.sc) (.slice q.pa r.C.aj.length q.pc))]:=by rw [hwr] at k6;exact k6
 refine ⟨_,k3.ldL (i:=1) (o:=0) rfl (jQ _) rfl rfl,w6,r6,(s7 a1 _ c1 snaps w6 (hs.an k6.chg) hn1).mono ?_⟩
 rintro e w7 ⟨sa,sc,rfl,f7⟩
 have k7:=Sx.St.cC (N:=[]) (by rw [List.append_nil];exact k6) f7
 have k7:St w [] w7 [.arr g8 47 gQ,.arr g11 47 (xO (r.C.gen+1) r.C.next r.C.set (.slice q.sa r.C.snaps.length q.sc) (.slice q.pa r.C.aj.length q.pc)),.row 89 36 (.slice sa snaps.length sc) snaps.length (snaps.flatMap fH)]:=k7
 obtain ⟨w8,r8,k8⟩:=k7.stL (i:=1) (o:=7) (off:=7) (T:=25) (v:=.slice sa snaps.length sc) rfl (OL _) rfl (by show 7<9;decide) rfl
 obtain ⟨w9,r9,k9⟩:=k8.stL (i:=1) (o:=8) (off:=8) (T:=45) (v:=.slice none 0 0) rfl (Nv _) rfl (by show 8<9;decide) rfl
 let R (nx:Int) (ga:Option Addr) (gc:Nat) (G:List PkD) (ka:Option Addr) (kc:Nat) (Q:List PkD):List Res:=[.arr g8 47 gQ,.arr g11 47 (xO (r.C.gen+1) nx r.C.set (.slice sa snaps.length sc) (.slice ka Q.length kc)),.row 89 36 (.slice sa snaps.length sc) snaps.length (snaps.flatMap fH),
   .row 91 3 (.slice ka Q.length kc) Q.length (Q.flatMap pkC),.row 91 3 (.slice ga G.length gc) G.length (G.flatMap pkC)]
 have k9:St w [] w9 (R r.C.next none 0 [] none 0 []):=(k9.b8 91 3).b8 91 3
 have hpk:∀ {w'},Chg [] w w'→RdE pkC 3 w' q.pa r.C.aj.length q.pc r.C.aj:=fun hc=>⟨(h.same hc).top.rd (i:=2) rfl,fun _ _=>rfl⟩
 refine ⟨_,_,_,rfl,w8,r8,w9,r9,_,_,_,(h.same k9.chg).top.ldL (i:=0) (o:=106) rfl (KP _) rfl (sF ok.kl q.sa q.sc q.pa q.pc 8),fun a n c x w'=>∃i:Nat,x=(i:Int)∧i≤r.C.aj.length∧n=(cu drop (r.C.aj.take i)).length∧∃ka kc,St w [] w' (R r.C.next a c (cu drop (r.C.aj.take i)) ka kc (bB drop (r.C.aj.take i))),fun _ _ _ x _=>r.C.aj.length-x.toNat,⟨0,rfl,by omega,by simp [cu],none,0,by simpa [cu,bB] using k9⟩,?_⟩
 rintro a n c x w10 ⟨i,rfl,hi,rfl,ka,kc,k10⟩
 have hgl:(cu drop (r.C.aj.take i)).length≤i:=Nat.le_trans (z7 _ _) (by simp;omega)
 have hkl:(bB drop (r.C.aj.take i)).length≤i:=Nat.le_trans (AL _ _) (by simp;omega)
 refine ⟨fun hlt=>?_,fun hge=>?_⟩
 · have hi':i<r.C.aj.length:=by simp at hlt;omega
   obtain ⟨p,hp⟩:∃p,r.C.aj[i]?=some p:=⟨_,List.getElem?_eq_getElem hi'⟩
   obtain ⟨b,o,hab,hld⟩:=(hpk k10.chg).ld (P:=Tryz.prog) (by decide) pqA pqS hp
   have eG:cu drop (r.C.aj.take (i+1))=if drop.contains p.num then cu drop (r.C.aj.take i)++ [p] else cu drop (r.C.aj.take i):=by rw [List.take_add_one,hp];exact Fe _ _ _
   have eK:bB drop (r.C.aj.take (i+1))=if drop.contains p.num then bB drop (r.C.aj.take i) else bB drop (r.C.aj.take i)++ [p]:=by rw [List.take_add_one,hp];exact Fc _ _ _
   obtain ⟨g14,w11,r11,k11⟩:=k10.az Oj
   obtain ⟨w12,r12,k12⟩:=k11.stA (i:=5) (v:=pkC p) rfl (pqS _) rfl rfl (sL p)
   have k12:St w [] w12 (R r.C.next a c (cu drop (r.C.aj.take i)) ka kc (bB drop (r.C.aj.take i))++ [.arr g14 91 (pkC p)]):=k12
   refine ⟨b,o,hab,by omega,by omega,_,hld w10 (hpk k10.chg),g14,w11,r11,w12,r12,_,k12.ldL (i:=5) (o:=0) rfl (jQ _) rfl rfl,(kK a2 n2 c2 drop p.num w12 (hrz.an k12.chg) (by omega)).mono ?_⟩
   rintro e w13 ⟨rfl,rfl⟩
   refine ⟨_,rfl,fun a' n' c' w'=>n'=(cu drop (r.C.aj.take (i+1))).length∧∃ka kc,St w [] w' (R r.C.next a' c' (cu drop (r.C.aj.take (i+1))) ka kc (bB drop (r.C.aj.take (i+1)))),⟨fun hin=>?_,fun hout=>?_⟩,fun a' n' c' w' ⟨hn',ka',kc',k'⟩=>⟨⟨i+1,aq hi' (by omega),by omega,hn',ka',kc',k'⟩,aB hi' (by omega)⟩⟩
   · rw [eG,eK,hin,if_pos rfl,if_pos rfl]
     obtain ⟨g1,w14,va,vc,w15,r14,r15,k15,_⟩:=k12.tP (i:=4) (ty:=45) pqT rfl (pkC p) rfl (by decide) (sL p) (by omega) (by rw [show maxLen=9223372036854775807 from rfl];omega)
     refine ⟨_,k12.ldA (i:=5) (l:=pkC p) rfl (pqA _) (pqS _) rfl,_,_,_,w14,r14,_,_,_,w15,r15,by simp,ka,kc,?_⟩
     have e1:(cu drop (r.C.aj.take i)++ [p]).flatMap pkC=(cu drop (r.C.aj.take i)).flatMap pkC++pkC p:=by rw [List.flatMap_append,List.flatMap_cons,List.flatMap_nil,List.append_nil]
     have hl1:(cu drop (r.C.aj.take i)++ [p]).length=(cu drop (r.C.aj.take i)).length+1:=by simp
     have k15:St w [] w15 (R r.C.next va vc (cu drop (r.C.aj.take i)++ [p]) ka kc (bB drop (r.C.aj.take i))++ [.arr g14 91 (pkC p)]):=by
       simp only [R,e1,hl1];exact k15
     exact k15.sub (List.sublist_append_left _ _)
   · rw [eG,eK,hout,if_neg Bool.false_ne_true,if_neg Bool.false_ne_true]
     obtain ⟨g1,w14,va,vc,w15,r14,r15,k15,k14⟩:=k12.tP (i:=3) (ty:=45) pqT rfl (pkC p) rfl (by decide) (sL p) (by omega) (by rw [show maxLen=9223372036854775807 from rfl];omega)
     obtain ⟨w16,r16,k16⟩:=k15.stL (i:=1) (o:=8) (off:=8) (T:=45) (v:=.slice va ((bB drop (r.C.aj.take i)).length+1) vc) rfl (Nv _) rfl (by show 8<9;decide) rfl
     refine ⟨_,_,_,k12.ldL (i:=1) (o:=8) rfl (KP _) rfl rfl,_,k12.ldA (i:=5) (l:=pkC p) rfl (pqA _) (pqS _) rfl,_,_,_,w14,r14,_,_,_,w15,r15,w16,r16,rfl,va,vc,?_⟩
     have e1:(bB drop (r.C.aj.take i)++ [p]).flatMap pkC=(bB drop (r.C.aj.take i)).flatMap pkC++pkC p:=by rw [List.flatMap_append,List.flatMap_cons,List.flatMap_nil,List.append_nil]
     have hl1:(bB drop (r.C.aj.take i)++ [p]).length=(bB drop (r.C.aj.take i)).length+1:=by simp
     have k16:St w [] w16 (R r.C.next a c (cu drop (r.C.aj.take i)) va vc (bB drop (r.C.aj.take i)++ [p])++ [.arr g14 91 (pkC p)]):=by
       simp only [R,e1,hl1];exact k16
     exact k16.sub (List.sublist_append_left _ _)
 · have hi':i=r.C.aj.length:=by simp at hge;omega
   subst hi'
   rw [List.take_length] at k10 hgl hkl ⊢
   obtain ⟨D,hD⟩:∃D,cE r.C snaps drop grows=D:=⟨_,rfl⟩
   refine ⟨fun w'=>∃ka kc,St w [] w' (R D.next a c (cu drop r.C.aj) ka kc D.aj),⟨fun hgr=>?_,fun hgr=>?_⟩,?_⟩
   · have hnx:r.C.next≠1099511627776:=fun e=>by rw [yK,e,hgr] at hF;simp at hF
     have hwn:IntKind.wrap .i64 (r.C.next+1)=r.C.next+1:=wrap_i64 (by omega) (by omega)
     obtain ⟨g1,w20,va,vc,w21,r20,r21,k21,_⟩:=k10.tP (i:=3) (ty:=45) pqT rfl (pkC ⟨r.C.next,0,0⟩) rfl (by decide) (sL _) (by omega) (by rw [show maxLen=9223372036854775807 from rfl];omega)
     obtain ⟨w22,r22,k22⟩:=k21.stL (i:=1) (o:=8) (off:=8) (T:=45) (v:=.slice va ((bB drop r.C.aj).length+1) vc) rfl (Nv _) rfl (by show 8<9;decide) rfl
     obtain ⟨w23,r23,k23⟩:=k22.stL (i:=1) (o:=1) (off:=1) (T:=3) (v:=.int .i64 (IntKind.wrap .i64 (r.C.next+1))) rfl (NW _) rfl (by show 1<9;decide) rfl
     refine ⟨_,_,_,k10.ldL (i:=1) (o:=8) rfl (KP _) rfl rfl,_,k10.ldL (i:=1) (o:=1) rfl (jQ _) rfl rfl,_,Fw _ _,_,_,_,w20,r20,_,_,_,w21,r21,w22,r22,_,k22.ldL (i:=1) (o:=1) rfl (jQ _) rfl rfl,w23,r23,va,vc,?_⟩
     have e1:D.next=r.C.next+1:=by rw [←hD,cE,hgr];rfl
     have e2:D.aj=bB drop r.C.aj++ [⟨r.C.next,0,0⟩]:=by rw [←hD,cE,hgr];rfl
     have e3:(bB drop r.C.aj++ [(⟨r.C.next,0,0⟩:PkD)]).flatMap pkC=(bB drop r.C.aj).flatMap pkC++pkC ⟨r.C.next,0,0⟩:=by rw [List.flatMap_append,List.flatMap_cons,List.flatMap_nil,List.append_nil]
     have hl1:(bB drop r.C.aj++ [(⟨r.C.next,0,0⟩:PkD)]).length=(bB drop r.C.aj).length+1:=by simp
     rw [hwn] at k23
     rw [e1,e2]
     simp only [R,e3,hl1]
     exact k23
   · refine ⟨ka,kc,?_⟩
     have e1:D.next=r.C.next:=by rw [←hD,cE,hgr];rfl
     have e2:D.aj=bB drop r.C.aj:=by rw [←hD,cE,hgr];simp
     rw [e1,e2];exact k10
   · rintro w24 ⟨ka,kc,k24⟩
     have dg:D.gen=r.C.gen+1:=by rw [←hD];rfl
     have ds:D.set=r.C.set:=by rw [←hD];rfl
     have dn:D.snaps=snaps:=by rw [←hD];rfl
     refine ⟨_,_,_,k24.ldL (i:=1) (o:=8) rfl (KP _) rfl rfl,fun hgt=>?_,fun hle=>?_⟩
     · exact ending 19 k24 rfl rfl (by rw [jK,if_neg (by rw [hF];simp),hD,if_pos (by simp at hgt;omega)])
     · have hE:jK r.C snaps drop grows=if aH D then none else some 28:=by rw [jK,if_neg (by rw [hF];simp),hD,if_neg (by simp at hle;omega)]
       rw [hE,hD]
       have e9:xO (r.C.gen+1) D.next r.C.set (.slice sa snaps.length sc) (.slice ka D.aj.length kc)=bV D sa D.snaps.length sc ka D.aj.length kc:=by rw [←dg,←ds,←dn];rfl
       have hR:Bo w24.drew D sa D.snaps.length sc ka D.aj.length kc:=⟨by rw [ds];exact ok.poly,by rw [dn];exact ⟨k24.drew.rd (i:=2) rfl,fun x _=>iX x⟩,⟨k24.drew.rd (i:=3) rfl,fun _ _=>rfl⟩,by rw [dn];exact hsl⟩
       refine ⟨fun w'=>∃M':List Res,St w [] w' (.arr g8 47 gQ:: .arr g11 47 (bV D sa D.snaps.length sc ka D.aj.length kc)::M'),⟨_,by rw [←e9];exact k24.drew⟩,_,fun w' ⟨_,k⟩=>k.ldA (i:=1) (l:=bV D sa D.snaps.length sc ka D.aj.length kc) rfl (jM _) (fI _) rfl,_,fun w' ⟨_,k⟩=>k.ldA (i:=1) (l:=bV D sa D.snaps.length sc ka D.aj.length kc) rfl (jM _) (fI _) rfl,(qL D sa _ sc ka _ kc _ hR).mono ?_⟩
       rintro e w26 ⟨rfl,c26⟩
       have k26:St w [] w26 (R D.next a c (cu drop r.C.aj) ka kc D.aj):=k24.drew.same c26
       obtain ⟨w27,r27,k27⟩:=k26.stA (i:=0) (v:=bV D sa D.snaps.length sc ka D.aj.length kc) rfl (fI _) rfl rfl (mm _ _ _ _ _ _ _)
       refine ⟨_,rfl,_,fun _ h=>h,⟨_,by rw [←e9];exact k26⟩,w27,r27,_,k27.bF (i:=0) (l:=bV D sa D.snaps.length sc ka D.aj.length kc) rfl (jM _) (fI _) rfl,_,a,_,c,rfl,rfl,mm _ _ _ _ _ _ _,k27.chg,fun _=>⟨sa,sc,ka,kc,rfl,rfl,?_⟩⟩
       have k28:=k27.sub (List.Sublist.cons _ (List.Sublist.cons _ (List.Sublist.refl _)))
       unfold lB lF
       rw [dn]
       exact k28
end

end Go.Proofs.YtpmhjnhgpplmnaaGreatDoor
end

section
namespace Go.Proofs.YtpmhjnhgpplmnaaGreatDoor
open Go Sx
set_option maxRecDepth 8000

def bC (m:af) (n:Nm):List (List UInt8)→af×Option Int
 | []=>(m,none)
 | p::ps=>match (aO m n [p]).2 with
   | some e=>((aO m n [p]).1,some e)
   | none=>bC (aO m n [p]).1 n ps
def gq (m:af) (n:Nm) (ps:List (List UInt8)):af×Option Int:=match (aM m n).2 with
 | some e=>((aM m n).1,some e)
 | none=>match (bC (aM m n).1 n ps).2 with
   | some e=>((bC (aM m n).1 n ps).1,some e)
   | none=>cV (bC (aM m n).1 n ps).1 n

theorem oW (m:af):(bp m).1.steps≤m.steps+1∧(bp m).1.chs=m.chs:=by
 unfold bp
 split
 · exact ⟨Nat.le_succ _,rfl⟩
 · split<;>exact ⟨Nat.le_refl _,rfl⟩
theorem B2 (m:af) (n:Nm) (ps:List (List UInt8)):(aO m n ps).1.steps≤m.steps+1:=by
 unfold aO
 split
 · exact Nat.le_succ _
 · split
   · unfold aU
     have:=(oW m).1
     split
     · exact this
     · exact this
   · exact Nat.le_succ _
theorem AX (m:af) (n:Nm):(aM m n).1.steps≤m.steps+1:=by
 unfold aM
 split
 · exact Nat.le_succ _
 · split
   · exact Nat.le_succ _
   · split
     · exact Nat.le_succ _
     · unfold aU
       have:=(oW m).1
       split
       · exact this
       · exact this

theorem pkA (w:World):(isAgg 91).run Tryz.prog w=.ok true w:=Tryz.isAgg91 w
theorem pkS (w:World):(sizeOf 91).run Tryz.prog w=.ok 3 w:=Tryz.sizeOf91 w
def pk3 (x y z:Int):List Value:=[.int .i64 x,.int .i64 y,.int .i64 z]
theorem Gi (x y z:Int):∀v∈pk3 x y z,v.oneCell'=true:=fun v hv=>by
 simp only [pk3,List.mem_cons,List.not_mem_nil,or_false] at hv
 rcases hv with rfl | rfl | rfl<;>rfl
theorem pkZ (w:World):(zeroValue 91).run Tryz.prog w=.ok (.agg (pk3 0 0 0).toArray) w:=Tryz.zeroValue91 w
theorem Dy:Tryz.prog.built 91=fun parts=>Instr.fill (fun i=>(#[(0,1),(1,1),(2,1)]:Array (Nat×Nat))[i]?) (pk3 0 0 0).toArray parts:=by kernel_rfl
theorem pH (w:World):(Instr.build 91 #[]).run Tryz.prog w=.ok (.agg (pk3 0 0 0).toArray) w:=by
 apply run_build
 rw [Dy]
 rfl
theorem KV (x y z:Int) (w:World):(Instr.build 91 #[(0,.int .i64 x),(1,.int .i64 y),(2,.int .i64 z)]).run Tryz.prog w=.ok (.agg (pk3 x y z).toArray) w:=by
 apply run_build
 rw [Dy]
 show Instr.fill _ _ [(0,_),(1,_),(2,_)]=_
 rw [aA (off:=0) (sz:=1) rfl rfl (by simp [Value.cells,pk3]),aA (off:=1) (sz:=1) rfl rfl (by simp [Value.cells,pk3]),aA (off:=2) (sz:=1) rfl rfl (by simp [Value.cells,pk3])]
 rfl

section
variable {w0 w w':World} {X:List Nat} {N N' T T':List Res} {gd:Nat} {ps:List Nat} {m:af}

theorem DG {g9:Nat} {l:List Value} (h:ah w0 X w gd ps m (N++ [.arr g9 91 l])) (hl:l.length=3) (x y z:Int):
   ∃w',(Instr.storeAt 91 (.pointer (some ⟨g9,0,none⟩)) (.agg (pk3 x y z).toArray)).run Tryz.prog w=.ok () w'∧(loadVar 91 ⟨g9,0,none⟩).run Tryz.prog w'=.ok (.agg (pk3 x y z).toArray) w'∧ah w0 X w' gd ps m N:=by
 have h1:=(h.rest.sub (List.sublist_append_right N _)).self
 obtain ⟨w2,r2,h2⟩:=h1.stA (i:=0) (v:=pk3 x y z) rfl (pkS _) hl rfl (Gi _ _ _)
 have h2:St w (iF [.arr g9 91 l]) w2 [.arr g9 91 (pk3 x y z)]:=h2
 exact ⟨w2,r2,h2.bF (i:=0) rfl (pkA _) (pkS _) rfl,(h.qP h2).wC (List.sublist_append_left _ _)⟩

end

def LZ:Option Int→List bq→List bq
 | none,rs=>rs
 | some _,_=>[]
def IL:Option Int→Int→Nat→Nat→List Value
 | none,num,s,k=>pk3 num (s:Int) (k:Int)
 | some _,_,_,_=>pk3 0 0 0
abbrev nY (ra:Option Addr) (rc:Nat) (rs:List bq):Res:=.row 100 35 (.slice ra rs.length rc) rs.length (rs.flatMap aC)
theorem KG (e:Option Int) (num:Int) (s k:Nat):(IL e num s k).length=3:=by cases e<;>rfl
theorem Jv (e:Option Int) (num:Int) (s k:Nat):∀v∈IL e num s k,v.oneCell'=true:=by cases e<;>exact Gi _ _ _

section
variable {w0 w w':World} {X:List Nat} {N N' T T':List Res} {gd gr:Nat} {ps:List Nat} {m:af}

set_option maxHeartbeats 2000000 in
theorem BN (K:List UInt8) (hk:K.length=96) (num:Int) (a:Option Addr) (n c:Nat) (l:List ItD) (h:ah w0 [] w gd ps m N) (hK:cR w) (hT:jr w) (hg:cU num=true) (hr:ItR w a n c l) (hs:cH (l.map ItD.t)) (hb:m.steps≤1000000) (hc:m.chs.length<1000000000):
   Calls Tryz.prog 220 #[.pointer (some ⟨gd,0,none⟩),.agg (bv K).toArray,.int .i64 num,.slice a n c] w fun e w'=>∃ra rc,e=.returned (.tuple #[.slice ra (LZ (gq m (ay num) (dH K num (l.map ItD.t))).2 (aT num 16 (l.map ItD.t))).length rc,.agg (IL (gq m (ay num) (dH K num (l.map ItD.t))).2 num (aY K num (l.map ItD.t)).length l.length).toArray,bk (gq m (ay num) (dH K num (l.map ItD.t))).2])∧∃ps',ah w0 [] w' gd ps' (gq m (ay num) (dH K num (l.map ItD.t))).1 (N++ [nY ra rc (LZ (gq m (ay num) (dH K num (l.map ItD.t))).2 (aT num 16 (l.map ItD.t)))]):=by
 obtain ⟨mI,hI⟩:=eI
 have hnl:l.length≤4096:=by have:=hs.num;simpa using this
 apply tK
 obtain ⟨g5,w1,r1,k1⟩:=(St.start w).b7 (P:=Tryz.prog) 41 (bv K)
 obtain ⟨g9,w2,r2,k2⟩:=k1.az pkZ
 have k2:St w [] w2 [.arr g5 41 (bv K),.arr g9 91 (pk3 0 0 0)]:=k2
 refine ⟨g5,w1,r1,g9,w2,r2,_,k2.ldA (i:=0) (l:=bv K) rfl (tV _) (qF _) (by simp [hk]),(Dp K hk num a n c l w2 (hK.an k2.chg) hg (hr.an k2.chg) hs).mono ?_⟩
 rintro e w3 ⟨g,rfl,f,hf1,hf2,k3⟩
 have h3:=(h.dh (k2.sub (N:=[.arr g9 91 (pk3 0 0 0)]) (List.sublist_cons_self _ _))).dh k3
 obtain ⟨F1,hF1⟩:∃F1,lz g num f++(f.ps.map PcD.row++ [])=F1:=⟨_,rfl⟩
 rw [hF1] at h3
 have fin:∀ {w':World} {ps':List Nat} {m':af},ah w0 [] w' gd ps' m' ((N++ [.arr g9 91 (pk3 0 0 0)])++F1)→St w0 [] w' F1:=fun h=>h.rest.sub (List.sublist_append_right _ _)
 have out:∀ {w':World} {ps':List Nat} {m':af},ah w0 [] w' gd ps' m' ((N++ [.arr g9 91 (pk3 0 0 0)])++F1)→ah w0 [] w' gd ps' m' (N++ [.arr g9 91 (pk3 0 0 0)]):=fun h=>h.wC (List.sublist_append_left _ _)
 refine ⟨_,_,rfl,_,au hI none _ _,fun h=>(by cases h),fun _=>(jo num w3 (hT.an ((k2.chg).trans k3.chg)) hg).mono ?_⟩
 rintro e w5 ⟨rfl,c5⟩
 have h5:=h3.same c5
 refine ⟨_,rfl,(oV (ay num) h5 (by omega) hc).mono ?_⟩
 rintro e w6 ⟨rfl,ps1,h6⟩
 obtain ⟨xs,hxs⟩:∃xs,dH K num (l.map ItD.t)=xs:=⟨_,rfl⟩
 have hcc:=AX m (ay num)
 obtain ⟨m1,hm1⟩:∃m1,(aM m (ay num)).1=m1:=⟨_,rfl⟩
 rw [hm1] at h6 hcc
 rw [hxs]
 have hxl:xs.length=l.length+2:=by rw [←hxs,wO,List.length_map]
 cases hce:(aM m (ay num)).2 with
 | some e=>
   have hsv:gq m (ay num) xs=(m1,some e):=by unfold gq;rw [hce];simp only [hm1]
   obtain ⟨w7,r7,l7,h7⟩:=DG (out h6) rfl 0 0 0
   refine ⟨_,rfl,_,au hI (some e) _ _,fun _=>⟨_,pH w6,w7,r7,_,l7,none,0,?_,ps1,?_⟩,fun h=>by cases h⟩
   · rw [hsv];rfl
   · rw [hsv];exact h7.dh ((St.start _).b8 100 35)
 | none=>
   have hsv:gq m (ay num) xs=(match (bC m1 (ay num) xs).2 with
     | some e=>((bC m1 (ay num) xs).1,some e)
     | none=>cV (bC m1 (ay num) xs).1 (ay num)):=by unfold gq;rw [hce];simp only [hm1]<;>rfl
   have F0:∀ {w':World} {ps':List Nat} {m':af},ah w0 [] w' gd ps' m' ((N++ [.arr g9 91 (pk3 0 0 0)])++F1)→St w0 [] w' ([.arr g 388 (lU num f),.row 26 1 (.slice f.la f.ps.length f.lc) f.ps.length (f.ps.map PcD.v),.row 100 35 (.slice f.ra f.rs.length f.rc) f.rs.length (f.rs.flatMap aC)]++(f.ps.map PcD.row++ [])):=fun h=>by rw [←hF1] at h;exact h.rest.sub (List.sublist_append_right _ _)
   have hpl:f.ps.length=xs.length:=by have:=congrArg List.length hf1;rw [List.length_map,hxs] at this;exact this
   refine ⟨_,rfl,_,au hI none _ _,fun h=>(by cases h),fun _=>⟨g,0,rfl,_,_,_,(F0 h6).ldL (i:=0) (o:=0) rfl (Og _) rfl rfl,fun x w'=>∃(j:Nat) (m':af),x=(j:Int)∧j≤f.ps.length∧bC m1 (ay num) xs=bC m' (ay num) (xs.drop j)∧m'.steps≤m1.steps+j∧ah w0 [] w' gd ps1 m' ((N++ [.arr g9 91 (pk3 0 0 0)])++F1),fun x _=>f.ps.length-x.toNat,⟨0,m1,rfl,by omega,by simp,by omega,h6⟩,?_⟩⟩
   rintro x w8 ⟨j,m',rfl,hj,hap,hst,h8⟩
   refine ⟨fun hlt=>?_,fun hge=>?_⟩
   · have hj':j<f.ps.length:=by simp at hlt;omega
     have hp:f.ps[j]?=some f.ps[j]:=List.getElem?_eq_getElem hj'
     obtain ⟨p,hpp⟩:∃p,f.ps[j]=p:=⟨_,rfl⟩
     rw [hpp] at hp
     have hxj:xs.drop j=p.l::xs.drop (j+1):=by
       have:xs[j]?=some p.l:=by rw [←hxs,←hf1,List.getElem?_map,hp];rfl
       obtain ⟨hj2,he⟩:=List.getElem?_eq_some_iff.1 this
       rw [List.drop_eq_getElem_cons hj2,he]
     have hrow:Rd w8 f.la f.ps.length f.lc 1 (f.ps.map PcD.v):=(F0 h8).rd (i:=1) rfl
     obtain ⟨b,o,hab,hcell⟩:=hrow.cells.at_ (i:=j) (v:=p.v) (by rw [List.getElem?_map,hp];rfl)
     obtain ⟨g11,w9,r9,k9⟩:=(St.start w8).lit bbT [p.v] (by simp [PcD.v,Value.oneCell']) (by simp)
     have h9:=h8.dh k9
     refine ⟨b,o,hab,by omega,by omega,_,_,_,by rw [Int.toNat_natCast,Nat.mul_one];exact ld1 (MT _) hcell,_,_,_,w9,r9,(oA (ay num) _ 1 1 [p.v] [p.l] h9 (fun {w2 ps2 m2} hD=>?_) (by omega) (by decide)).mono ?_⟩
     · have hF:=F0 (hD.wC (List.sublist_append_left _ _))
       have hrd:RdB w2 p.a p.l.length p.c p.l:=hF.rd (i:=3+j) (by
         rw [List.getElem?_append_right (by simp),List.getElem?_append_left (by simp;omega)]
         simp only [List.length_cons,List.length_nil]
         rw [List.getElem?_map,show 3+j- (0+1+1+1)=j by omega,hp];rfl)
       exact ⟨(hD.rest.sub (List.sublist_append_right _ _)).rd (i:=0) rfl,eL.cons hrd (eL.nil _)⟩
     rintro e w10 ⟨rfl,h10⟩
     have h10:=h10.wC (N':=(N++ [.arr g9 91 (pk3 0 0 0)])++F1) (List.sublist_append_left _ _)
     have hac:=B2 m' (ay num) [p.l]
     obtain ⟨m2,hm2⟩:∃m2,(aO m' (ay num) [p.l]).1=m2:=⟨_,rfl⟩
     rw [hm2] at h10 hac
     rw [hxj] at hap
     cases hae:(aO m' (ay num) [p.l]).2 with
     | some e=>
       have hap2:bC m1 (ay num) xs=(m2,some e):=by rw [hap,bC,hae];simp only [hm2]
       have hsv2:gq m (ay num) xs=(m2,some e):=by rw [hsv,hap2]
       obtain ⟨w11,r11,l11,h11⟩:=DG (out h10) rfl 0 0 0
       refine ⟨_,rfl,_,au hI (some e) _ _,fun _=>⟨_,pH w10,w11,r11,_,l11,none,0,?_,ps1,?_⟩,fun h=>by cases h⟩
       · rw [hsv2];rfl
       · rw [hsv2];exact h11.dh ((St.start _).b8 100 35)
     | none=>
       have hap2:bC m1 (ay num) xs=bC m2 (ay num) (xs.drop (j+1)):=by rw [hap,bC,hae];simp only [hm2]
       exact ⟨_,rfl,_,au hI none _ _,fun h=>(by cases h),fun _=>⟨⟨j+1,m2,aq hj' (by omega),by omega,hap2,by omega,h10⟩,aB hj' (by omega)⟩⟩
   · have hj':j=f.ps.length:=by simp at hge;omega
     rw [hj',hpl,List.drop_length] at hap
     have hap:bC m1 (ay num) xs=(m',none):=hap
     have hsv2:gq m (ay num) xs=cV m' (ay num):=by rw [hsv,hap]
     refine (uw (ay num) h8 (by omega)).mono ?_
     rintro e w12 ⟨rfl,h12⟩
     rw [←hsv2] at h12 ⊢
     cases hse:(gq m (ay num) xs).2 with
     | some e=>
       obtain ⟨w13,r13,l13,h13⟩:=DG (out h12) rfl 0 0 0
       exact ⟨_,rfl,_,au hI (some e) _ _,fun _=>⟨_,pH w12,w13,r13,_,l13,none,0,rfl,ps1,h13.dh ((St.start _).b8 100 35)⟩,fun h=>by cases h⟩
     | none=>
       have h12d:=h12.same (Chg.drew [] w12)
       have hsub: [nY f.ra f.rc f.rs].Sublist F1:=List.singleton_sublist.2 (by rw [←hF1];exact List.mem_append_left _ (show _∈lz g num f by unfold lz;simp [nY]))
       have h12e:=(h12d.wC (List.Sublist.append_left hsub _)).yw (N':=(N++ [nY f.ra f.rc f.rs])++ [.arr g9 91 (pk3 0 0 0)]) (by
         rw [List.append_assoc,List.append_assoc]
         exact List.Perm.append_left _ (List.perm_append_comm))
       obtain ⟨w14,r14,l14,h14⟩:=DG h12e rfl num (((f.ps.map PcD.l).flatten.length:Nat):Int) ((n:Nat):Int)
       let S:World→Prop:=fun w'=>St w0 [] w' ([.arr g 388 (lU num f),.row 26 1 (.slice f.la f.ps.length f.lc) f.ps.length (f.ps.map PcD.v),.row 100 35 (.slice f.ra f.rs.length f.rc) f.rs.length (f.rs.flatMap aC)]++(f.ps.map PcD.row++ []))
       have hbl:(f.ps.map PcD.l).flatten.length=(aY K num (l.map ItD.t)).length:=by rw [hf1];rfl
       have hln:=hr.rd.num (by decide)
       refine ⟨_,rfl,_,au hI none _ _,fun h=>(by cases h),fun _=>⟨S,F0 h12d,g,0,rfl,g,0,rfl,_,_,_,fun w' hw=>Sx.St.ldL hw (i:=0) (o:=3) rfl (M3 _) rfl rfl,_,fun w' hw=>Sx.St.ldL hw (i:=0) (o:=1) rfl (inA _) rfl rfl,_,fun w' _=>KV _ _ _ w',w14,r14,_,l14,f.ra,f.rc,?_,ps1,?_⟩⟩
       · rw [hbl,←hln,←hf2];rfl
       · rw [←hf2];exact h14


end

def vO (m:af) (n:Nm) (ps:List (List UInt8)):af×Option Int:=match (bC m n ps).2 with
 | some e=>((bC m n ps).1,some e)
 | none=>cV (bC m n ps).1 n
theorem Iv (m:af) (n:Nm) (ps:List (List UInt8)):gq m n ps=match (aM m n).2 with
 | some e=>((aM m n).1,some e)
 | none=>vO (aM m n).1 n ps:=rfl
theorem tail_cons (m:af) (n:Nm) (p:List UInt8) (ps:List (List UInt8)):vO m n (p::ps)=match (aO m n [p]).2 with
 | some e=>((aO m n [p]).1,some e)
 | none=>vO (aO m n [p]).1 n ps:=by
 unfold vO
 rw [bC]
 cases h:(aO m n [p]).2<;>simp only [h]
theorem tail_nil (m:af) (n:Nm):vO m n []=cV m n:=rfl
theorem mF (m:af) (f:af→af) (a b:Nat) (hf:∀m,(f m).steps=m.steps∧(f m).chs.length≤m.chs.length+a∧(f m).files.length≤m.files.length+b):
   (aU m f).1.steps≤m.steps+1∧(aU m f).1.chs.length≤m.chs.length+a∧(aU m f).1.files.length≤m.files.length+b:=by
 obtain ⟨e1,_,e3,_⟩:=iQ m
 have hc:=(oW m).1
 unfold aU
 split
 · exact ⟨hc,by show (bp m).1.chs.length≤_;rw [e3];omega,by show (bp m).1.files.length≤_;rw [e1];omega⟩
 · obtain ⟨h1,h2,h3⟩:=hf (bp m).1
   rw [e3] at h2
   rw [e1] at h3
   exact ⟨by show (f (bp m).1).steps≤_;rw [h1];exact hc,h2,h3⟩
theorem Bi (m:af) (n:Nm):(aM m n).1.steps≤m.steps+1∧(aM m n).1.chs.length≤m.chs.length+1∧(aM m n).1.files.length≤m.files.length+1:=by
 unfold aM
 split
 · exact ⟨Nat.le_succ _,Nat.le_succ _,Nat.le_succ _⟩
 · split
   · exact ⟨Nat.le_succ _,Nat.le_succ _,Nat.le_succ _⟩
   · split
     · exact ⟨Nat.le_succ _,Nat.le_succ _,Nat.le_succ _⟩
     · exact mF m _ 1 1 fun m=>by simp [iG,iS]
theorem BK (m:af) (n:Nm) (ps:List (List UInt8)):(aO m n ps).1.steps≤m.steps+1∧(aO m n ps).1.chs.length≤m.chs.length∧(aO m n ps).1.files.length≤m.files.length:=by
 unfold aO
 split
 · exact ⟨Nat.le_succ _,Nat.le_refl _,Nat.le_refl _⟩
 · split
   · exact mF m _ 0 0 fun m=>by simp [bI,gD]
   · exact ⟨Nat.le_succ _,Nat.le_refl _,Nat.le_refl _⟩
theorem EZ (m:af) (n:Nm):(cV m n).1.steps≤m.steps+1∧(cV m n).1.chs.length≤m.chs.length∧(cV m n).1.files.length≤m.files.length:=by
 unfold cV
 split
 · exact ⟨Nat.le_succ _,Nat.le_refl _,Nat.le_refl _⟩
 · exact mF m _ 0 0 fun m=>by simp [kL,gD]
theorem zb:∀(ps:List (List UInt8)) (m:af) (n:Nm),(vO m n ps).1.steps≤m.steps+ps.length+1∧(vO m n ps).1.chs.length≤m.chs.length∧(vO m n ps).1.files.length≤m.files.length
 | [],m,n=>by rw [tail_nil];have:=EZ m n;simpa using this
 | p::ps,m,n=>by
   have h1:=BK m n [p]
   rw [tail_cons]
   split
   · exact ⟨by simp;omega,h1.2.1,h1.2.2⟩
   · have h2:=zb ps (aO m n [p]).1 n
     exact ⟨by simp;omega,by omega,by omega⟩
theorem EU (m:af) (n:Nm) (ps:List (List UInt8)):(gq m n ps).1.steps≤m.steps+ps.length+2∧(gq m n ps).1.chs.length≤m.chs.length+1∧(gq m n ps).1.files.length≤m.files.length+1:=by
 have h1:=Bi m n
 rw [Iv]
 split
 · exact ⟨by show (aM m n).1.steps≤_;omega,h1.2.1,h1.2.2⟩
 · have h2:=zb ps (aM m n).1 n
   exact ⟨by omega,by omega,by omega⟩

def svA (K:List UInt8) (num:Int) (xs:List Itm) (m:af):af×Option Int:=if cU num then gq m (ay num) (dH K num xs) else (m,some 28)
theorem Ab (K:List UInt8) (num:Int) (xs:List Itm) (m:af):(svA K num xs m).1.steps≤m.steps+xs.length+4∧(svA K num xs m).1.chs.length≤m.chs.length+1∧(svA K num xs m).1.files.length≤m.files.length+1:=by
 unfold svA
 split
 · have:=EU m (ay num) (dH K num xs)
   rw [wO] at this
   exact ⟨by omega,this.2.1,this.2.2⟩
 · exact ⟨by show m.steps≤_;omega,Nat.le_succ _,Nat.le_succ _⟩

section
variable {w0 w w':World} {X:List Nat} {N N' T T':List Res} {gd gr:Nat} {ps:List Nat} {m:af}

theorem Bt (K:List UInt8) (hk:K.length=96) (num:Int) (a:Option Addr) (n c:Nat) (l:List ItD) (h:ah w0 [] w gd ps m N) (hK:cR w) (hT:jr w) (hr:ItR w a n c l) (hs:cH (l.map ItD.t)) (hb:m.steps≤1000000) (hc:m.chs.length<1000000000):
   Calls Tryz.prog 220 #[.pointer (some ⟨gd,0,none⟩),.agg (bv K).toArray,.int .i64 num,.slice a n c] w fun e w'=>∃ra rc,e=.returned (.tuple #[.slice ra (LZ (svA K num (l.map ItD.t) m).2 (aT num 16 (l.map ItD.t))).length rc,.agg (IL (svA K num (l.map ItD.t) m).2 num (aY K num (l.map ItD.t)).length l.length).toArray,bk (svA K num (l.map ItD.t) m).2])∧∃ps',ah w0 [] w' gd ps' (svA K num (l.map ItD.t) m).1 (N++ [nY ra rc (LZ (svA K num (l.map ItD.t) m).2 (aT num 16 (l.map ItD.t)))]):=by
 cases hg:cU num with
 | true=>
   have e:svA K num (l.map ItD.t) m=gq m (ay num) (dH K num (l.map ItD.t)):=by unfold svA;rw [if_pos hg]
   rw [e]
   exact BN K hk num a n c l h hK hT hg hr hs hb hc
 | false=>
   have e:svA K num (l.map ItD.t) m=(m,some 28):=by unfold svA;rw [if_neg (by rw [hg];simp)]
   rw [e]
   obtain ⟨mI,hI⟩:=eI
   apply tK
   obtain ⟨g5,w1,r1,k1⟩:=(St.start w).b7 (P:=Tryz.prog) 41 (bv K)
   obtain ⟨g9,w2,r2,k2⟩:=k1.az pkZ
   have k2:St w [] w2 [.arr g5 41 (bv K),.arr g9 91 (pk3 0 0 0)]:=k2
   refine ⟨g5,w1,r1,g9,w2,r2,_,k2.ldA (i:=0) (l:=bv K) rfl (tV _) (qF _) (by simp [hk]),(Kc K num a n c w2 hg).mono ?_⟩
   rintro e w3 ⟨rfl,c3⟩
   have h3:=h.dh ((k2.sub (N:=[.arr g9 91 (pk3 0 0 0)]) (List.sublist_cons_self _ _)).same c3)
   obtain ⟨w7,r7,l7,h7⟩:=DG h3 rfl 0 0 0
   exact ⟨_,_,rfl,_,au hI (some 28) _ _,fun _=>⟨_,pH w3,w7,r7,_,l7,none,0,rfl,ps,h7.dh ((St.start _).b8 100 35)⟩,fun h=>by cases h⟩


end

end Go.Proofs.YtpmhjnhgpplmnaaGreatDoor
end

section
namespace Go.Proofs.YtpmhjnhgpplmnaaGreatDoor
open Go Sx
set_option maxRecDepth 8000

theorem Sx.St.MF {P:Program} {w0 w:World} {X:List Nat} {M:List Res} (h:St w0 X w M) {i g n c j k:Nat} {e T:TypeId} {xs vs:List Value} (hi:M[i]?=some (.row e k (.slice (some ⟨g,0,none⟩) n c) n xs)) (hT:(sizeOf T).run P w=.ok k w) (hl:vs.length=k) (h1:∀v∈vs,v.oneCell'=true) (hj:j<n):
   ∃w',(Instr.storeAt T (.pointer (some ⟨g,j*k,none⟩)) (.agg vs.toArray)).run P w=.ok () w'∧St w0 X w' (M.set i (.row e k (.slice (some ⟨g,0,none⟩) n c) n (xs.take (j*k)++vs++xs.drop (j*k+k)))):=by
 have hown:w.ownsRow 0 e k (.slice (some ⟨g,0,none⟩) n c) n xs:=h.holds i _ hi
 obtain ⟨hlen,hrow⟩:=hown
 rcases hrow with ⟨hv0,_⟩ | ⟨g',cap,cur,hv0,hb,hg,hnc,hcm,hcs,ht⟩
 · simp at hv0
 · simp only [Value.slice.injEq,Option.some.injEq,Addr.mk.injEq,and_true,true_and] at hv0
   obtain ⟨rfl,rfl⟩:=hv0
   have hjk:j*k+k≤n*k:=by rw [←Nat.succ_mul];exact Nat.mul_le_mul_right k hj
   have hck:n*k≤c*k:=Nat.mul_le_mul_right k hnc
   have hst:=run_storeCells_at P g (j*k) e vs 0 cur w hg (by omega) h1
   simp only [Nat.add_zero,hl] at hst
   have hcl:cur.toList.length=c*k:=by rw [Array.length_toList,hcs]
   refine ⟨_,?_,h.upd hi (w':=w.setRow g (cur.toList.take (j*k)++vs++cur.toList.drop (j*k+k)).toArray) ⟨rfl,rfl,rfl,by simp,fun q _ hk=>setRow_other w g q _ (fun e=>hk (by simp [Res.fp,Value.ownBlock,e]))⟩ ?_ (by simp [Res.fp,Value.ownBlock])⟩
   · simp [Instr.storeAt,Instr.sureAddr,storeVar,hT,Value.cells,hl,hst]
   · have hxl:xs.length=n*k:=hlen
     refine ⟨?_,.inr ⟨g,c,_,rfl,hb,setRow_heap w g cur _ e _ hg,hnc,hcm,?_,?_⟩⟩
     · simp only [List.length_append,List.length_take,List.length_drop,hxl,hl];omega
     · simp only [List.size_toArray,List.length_append,List.length_take,List.length_drop,hcl,hl];omega
     · rw [List.toList_toArray]
       have hx:xs=cur.toList.take (n*k):=ht.symm
       apply List.ext_getElem?
       intro q
       rw [hx]
       by_cases hq:q<n*k
       · rw [List.getElem?_take,if_pos hq]
         by_cases h2:q<j*k
         · have la:(cur.toList.take (j*k)).length=j*k:=by simp only [List.length_take,hcl];omega
           have lb:((cur.toList.take (n*k)).take (j*k)).length=j*k:=by simp only [List.length_take,hcl];omega
           have e1:∀B:List Value,(cur.toList.take (j*k)++vs++B)[q]?=cur.toList[q]?:=fun B=>by rw [List.append_assoc,List.getElem?_append_left (by omega),List.getElem?_take,if_pos h2]
           have e2:∀B:List Value,((cur.toList.take (n*k)).take (j*k)++vs++B)[q]?=cur.toList[q]?:=fun B=>by rw [List.append_assoc,List.getElem?_append_left (by omega),List.getElem?_take,if_pos h2,List.getElem?_take,if_pos hq]
           rw [e1,e2]
         · by_cases h3:q<j*k+k
           · have la:(cur.toList.take (j*k)).length=j*k:=by simp only [List.length_take,hcl];omega
             have lb:((cur.toList.take (n*k)).take (j*k)).length=j*k:=by simp only [List.length_take,hcl];omega
             have e1:∀A B:List Value,A.length=j*k→(A++vs++B)[q]?=vs[q-j*k]?:=fun A B hA=>by rw [List.append_assoc,List.getElem?_append_right (by omega),hA,List.getElem?_append_left (by omega)]
             rw [e1 _ _ la,e1 _ _ lb]
           · have la:(cur.toList.take (j*k)++vs).length=j*k+k:=by simp only [List.length_append,List.length_take,hcl,hl];omega
             have lb:((cur.toList.take (n*k)).take (j*k)++vs).length=j*k+k:=by simp only [List.length_append,List.length_take,hcl,hl];omega
             have e1:∀A B:List Value,A.length=j*k+k→(A++B)[q]?=B[q- (j*k+k)]?:=fun A B hA=>by rw [List.getElem?_append_right (by omega),hA]
             rw [e1 _ _ la,e1 _ _ lb,List.getElem?_drop,List.getElem?_drop,List.getElem?_take,if_pos (by omega)]
       · rw [List.getElem?_take,if_neg hq,List.getElem?_eq_none]
         simp only [List.length_append,List.length_take,List.length_drop,hcl,hl];omega

theorem BI {w:World} {e:TypeId} {sz:Nat} {a:Option Addr} {n c m:Nat} {xs:List Value} (h:w.ownsRow 0 e sz (.slice a n c) m xs) (hn:0<m):∃g,a=some ⟨g,0,none⟩:=by
 rcases h.2 with ⟨_,h0⟩ | ⟨g,cap,cur,hv,_⟩
 · omega
 · simp only [Value.slice.injEq] at hv
   exact ⟨g,hv.1⟩

theorem Hw {gd gi:Nat} {r:gZ} (hk:r.K.length=96) (sa:Option Addr) (sc:Nat) (pa:Option Addr) (pc:Nat):(fK gd gi r sa sc pa pc).set 108 (.bool true)=fK gd gi { r with dead:=true } sa sc pa pc:=by
 show pV gd::pV gi::((bv r.K++_).set 106 _)=_
 rw [List.set_append_right _ _ (by simp [hk])]
 have:106- (bv r.K).length=10:=by simp [hk]
 rw [this]
 rfl
theorem OP (w:World):(sizeOf 4).run Tryz.prog w=.ok 1 w:=Tryz.sizeOf4 w

noncomputable def eM (r:gZ) (m:af) (e:Int) (grows:Bool):af×gZ:=if e=1∨e=22 then (m, { r with dead:=true }) else (dX [tN] (if grows then dX [ay r.C.next] m else m),r)

section
variable {w0 w w':World} {N:List Res} {gd gr:Nat} {m:af} {r:gZ} {q:wD}

theorem ROk.die (ok:ROk r q):ROk { r with dead:=true } q:=⟨ok.Ma,ok.Ei,ok.kl,ok.poly,ok.chk,ok.cok,ok.names,ok.sn,ok.pn,ok.good⟩

theorem Mk (n:Nm) (h:ah w0 [] w gd q.ps m N) (hb:B63 2 m):∃g w1,(Instr.buildSlice 166 1 #[(0,aJ n)]).run Tryz.prog w=.ok (.slice (some ⟨g,0,none⟩) 1 1) w1∧Chg [] w w1∧
   Calls Tryz.prog 136 #[plV gd,.slice (some ⟨g,0,none⟩) 1 1] w1 fun e w'=>e=.returned (.tuple #[])∧ah w0 [] w' gd q.ps (dX [n] m) N:=by
 obtain ⟨g,w1,r1,k1⟩:=(St.start w).lit Hz [aJ n] (by simp [Value.oneCell',aJ]) (by simp)
 refine ⟨g,w1,r1,k1.chg,(Al _ 1 1 [n] (h.dh k1) (fun w' _ k=>(k.sub (List.sublist_append_right _ _)).rd (i:=0) rfl) (by decide) hb).mono ?_⟩
 rintro e w2 ⟨rfl,h2⟩
 exact ⟨rfl,h2.cut⟩

set_option maxHeartbeats 1000000 in
theorem B9 (e:Int) (grows:Bool) (ok:ROk r q) (h:ah w0 [] w gd q.ps m (N++q.T gd gr r)) (hT:jr w0) (hg:grows=true→cU r.C.next=true) (hb:B63 4 m):
   Calls Tryz.prog 130 #[pV gr,bk (some e),.bool grows] w fun ee w'=>ee=.returned (bk (some e))∧ah w0 [] w' gd q.ps (eM r m e grows).1 (N++q.T gd gr (eM r m e grows).2):=by
 apply qa
 refine ⟨fun b w'=>b=decide (e=1∨e=22)∧w'=w,(kA (some e) 1 w).mono ?_,?_⟩
 · rintro e1 w1 ⟨rfl,rfl⟩
   refine ⟨_,rfl,fun h1=>⟨?_,rfl⟩,fun h1=>(kA (some e) 22 w1).mono ?_⟩
   · have:e=1:=by simpa using h1
     simp [this]
   · rintro e2 w2 ⟨rfl,rfl⟩
     have:e≠1:=by simpa using h1
     exact ⟨_,rfl,by simp [this],rfl⟩
 rintro b w3 ⟨hb3,rfl⟩
 refine ⟨fun hd=>?_,fun hd=>?_⟩
 · have hc:e=1∨e=22:=by rw [hb3] at hd;simpa using hd
   have k:=h.top.self
   obtain ⟨w4,r4,k4⟩:=k.stL (i:=0) (o:=108) (off:=0+108) (T:=4) (v:=.bool true) rfl (OP _) rfl (by rw [rZ ok.kl];decide) rfl
   have k4:St w3 (iF (q.T gd gr r)) w4 (q.T gd gr { r with dead:=true }):=by rw [Hw ok.kl] at k4;exact k4
   refine ⟨w4,r4,rfl,?_⟩
   rw [eM,if_pos hc]
   exact h.qP k4
 · have hc:¬(e=1∨e=22):=by rw [hb3] at hd;simpa using hd
   rw [eM,if_neg hc]
   have ldP:∀ {w':World} {m':af},ah w0 [] w' gd q.ps m' (N++q.T gd gr r)→(Instr.loadAt 142 (.pointer (some ⟨gr,0,none⟩))).run Tryz.prog w'=.ok (plV gd) w':=fun h'=>h'.top.ldP (i:=0) (o:=0) rfl (plA _) (plS _) rfl rfl
   refine ⟨fun w'=>ah w0 [] w' gd q.ps (if grows then dX [ay r.C.next] m else m) (N++q.T gd gr r),⟨fun hgr=>?_,fun hgr=>?_⟩,fun w8 h8=>?_⟩
   · rw [hgr,if_pos rfl]
     have hbn:=bH ok.chk
     have hd:=h.same (Chg.drew [] w3)
     refine ⟨fun w'=>∃m',ah w0 [] w' gd q.ps m' (N++q.T gd gr r),⟨m,hd⟩,_,fun w' ⟨_,h'⟩=>ldP h',_,fun w' ⟨_,h'⟩=>h'.top.ldL (i:=0) (o:=99) rfl (jQ _) rfl (sF ok.kl q.sa q.sc q.pa q.pc 1),(jo r.C.next _ (hT.an hd.chg) (hg hgr)).mono ?_⟩
     rintro e5 w5 ⟨rfl,c5⟩
     have h5:=hd.same c5
     obtain ⟨g,w6,r6,c6,hc6⟩:=Mk (ay r.C.next) h5 ⟨by have:=hb.1;omega,by have:=hb.2;omega⟩
     refine ⟨_,rfl,_,fun _ h=>h,⟨_,h5⟩,_,_,_,w6,r6,_,fun _ h=>h,⟨_,h5.same c6⟩,hc6.mono ?_⟩
     rintro e7 w7 ⟨rfl,h7⟩
     exact ⟨rfl,_,fun _ h=>h,⟨_,h7⟩,h7⟩
   · rw [hgr];exact h
   · have hb8:B63 2 (if grows then dX [ay r.C.next] m else m):=by
       cases grows with
       | false=>exact ⟨by have:=hb.1;simp;omega,by have:=hb.2;simp;omega⟩
       | true=>exact B63.of (j:=1) ⟨by have:=hb.1;omega,by have:=hb.2;omega⟩ (yA [ay r.C.next] m)
     obtain ⟨g,w9,r9,c9,hc9⟩:=Mk tN h8 hb8
     refine ⟨_,ldP h8,_,_,_,w9,r9,hc9.mono ?_⟩
     rintro e10 w10 ⟨rfl,h10⟩
     exact ⟨rfl,rfl,h10⟩
end

end Go.Proofs.YtpmhjnhgpplmnaaGreatDoor
end

section
namespace Go.Proofs.YtpmhjnhgpplmnaaGreatDoor
open Go Sx
set_option maxRecDepth 8000

def gh (c:bR) (Q:List PkD) (p:PkD):bR:= { c with aj:=Q++ [p] }
noncomputable def aX (K:List UInt8) (c:bR) (Q:List PkD) (num:Int) (xs:List Itm) (m:af):(af×Option Int)×bR×List bq:=
 if xs=[] then (aW K c m,c,[]) else match (bf (ay num) m).2 with
   | some e=>(((bf (ay num) m).1,some e),c,[])
   | none=>match (svA K num xs (bf (ay num) m).1).2 with
     | some e=>(((svA K num xs (bf (ay num) m).1).1,some e),c,[])
     | none=>(aW K (gh c Q ⟨num,((aY K num xs).length:Int),(xs.length:Int)⟩) (svA K num xs (bf (ay num) m).1).1,gh c Q ⟨num,((aY K num xs).length:Int),(xs.length:Int)⟩,aT num 16 xs)

section
variable {w0 w w':World} {N:List Res} {gd gr g11:Nat} {m:af} {r:gZ} {q:wD}

def nF (g11:Nat) (c:bR) (sa:Option Addr) (sc:Nat) (pa:Option Addr) (pc:Nat):List Res:=[.arr g11 47 (bV c sa c.snaps.length sc pa c.aj.length pc),lB c sa sc,lF c pa pc]

theorem BX (c:bR) (sa:Option Addr) (sc:Nat) (pa:Option Addr) (pc:Nat) {ps:List Nat} {M T:List Res} {K:List UInt8} (hk:K.length=96) (h:ah w0 [] w gd ps m (M++(nF g11 c sa sc pa pc++T))) (hK:cR w0) (hT:jr w0) (hpo:c.set.poly<W64) (hnm:∀s∈c.snaps,s.name.length≤4611686018427387904) (hco:aH c=true→gE c) (hb:B63 20 m):
   Calls Tryz.prog 92 #[pV gd,.agg (bv K).toArray,.agg (bV c sa c.snaps.length sc pa c.aj.length pc).toArray] w fun e w'=>e=.returned (bk (aW K c m).2)∧∃ps',ah w0 [] w' gd ps' (aW K c m).1 (M++(nF g11 c sa sc pa pc++T)):=
 vF K hk c sa _ sc pa _ pc h hK hT ⟨hpo,⟨h.top.rd (i:=1) rfl,fun x _=>iX x⟩,⟨h.top.rd (i:=2) rfl,fun _ _=>rfl⟩,hnm⟩ hco hb

set_option maxHeartbeats 4000000 in
theorem EC (c:bR) (Q:List PkD) (num:Int) (sa:Option Addr) (sc:Nat) (pa:Option Addr) (pc:Nat) (O:List ItD) (ia:Option Addr) (ic:Nat) (ok:ROk r q)
   (h:ah w0 [] w gd q.ps m ((N++q.T gd gr r)++nF g11 c sa sc pa pc)) (hK:cR w0) (hT:jr w0) (hlast:O≠ []→c.aj=Q++ [⟨num,0,0⟩]∧cU num=true) (hit:∀w',St w0 [] w' N→ItR w' ia O.length ic O) (hs:cH (O.map ItD.t))
   (hpo:c.set.poly<W64) (hnm:∀s∈c.snaps,s.name.length≤4611686018427387904) (hcok:aH (gh c Q ⟨num,((aY r.K num (O.map ItD.t)).length:Int),((O.map ItD.t).length:Int)⟩)=true→gE (gh c Q ⟨num,((aY r.K num (O.map ItD.t)).length:Int),((O.map ItD.t).length:Int)⟩)) (hco:aH c=true→gE c) (hpn:c.aj.length≤1000000) (hb1:m.steps≤900000) (hb2:m.chs.length≤900000000):
   Calls Tryz.prog 129 #[pV gr,pV g11,.slice ia O.length ic] w fun e w'=>∃ra rc ps',e=.returned (.tuple #[.slice ra (aX r.K c Q num (O.map ItD.t) m).2.2.length rc,bk (aX r.K c Q num (O.map ItD.t) m).1.2])∧
     ah w0 [] w' gd ps' (aX r.K c Q num (O.map ItD.t) m).1.1 (N++q.T gd gr r)∧((aX r.K c Q num (O.map ItD.t) m).1.2=none→ah w0 [] w' gd ps' (aX r.K c Q num (O.map ItD.t) m).1.1 ((N++q.T gd gr r)++(nF g11 (aX r.K c Q num (O.map ItD.t) m).2.1 sa sc pa pc++ [nY ra rc (aX r.K c Q num (O.map ItD.t) m).2.2]))):=by
 obtain ⟨mI,hI⟩:=eI
 have ldD:∀ {w':World} {ps' m' T},ah w0 [] w' gd ps' m' ((N++q.T gd gr r)++T)→(Instr.loadAt 51 (.pointer (some ⟨gr,0,none⟩))).run Tryz.prog w'=.ok (pV gd) w':=fun h'=>h'.cut.top.ldL (i:=0) (o:=0) rfl (pdA _) rfl rfl
 have ldP:∀ {w':World} {ps' m' T},ah w0 [] w' gd ps' m' ((N++q.T gd gr r)++T)→(Instr.loadAt 142 (.pointer (some ⟨gr,0,none⟩))).run Tryz.prog w'=.ok (plV gd) w':=fun h'=>h'.cut.top.ldP (i:=0) (o:=0) rfl (plA _) (plS _) rfl rfl
 have ldK:∀ {w':World} {ps' m' T},ah w0 [] w' gd ps' m' ((N++q.T gd gr r)++T)→(Instr.loadAt 41 (.pointer (some ⟨gr,0+2,none⟩))).run Tryz.prog w'=.ok (.agg (bv r.K).toArray) w':=fun h'=>h'.cut.top.ldP (i:=0) (o:=2) rfl (tV _) (qF _) (jW ok.kl _ _ _ _) (by simp [ok.kl])
 apply qZ
 refine ⟨fun a n c0 w'=>∃(ps':List Nat) (m':af) (c':bR) (rs:List bq),n=rs.length∧aX r.K c Q num (O.map ItD.t) m=(aW r.K c' m',c',rs)∧c'.set.poly<W64∧(∀s∈c'.snaps,s.name.length≤4611686018427387904)∧(aH c'=true→gE c')∧B63 20 m'∧ah w0 [] w' gd ps' m' ((N++q.T gd gr r)++(nF g11 c' sa sc pa pc++ [nY a c0 rs])),⟨fun hpos=>?_,fun hzero=>?_⟩,?_⟩
 · have hne:O≠ []:=fun e=>by rw [e] at hpos;simp at hpos
   obtain ⟨hpk,hgp⟩:=hlast hne
   have hxs:O.map ItD.t≠ []:=fun e=>hne (List.map_eq_nil_iff.1 e)
   have hcl:c.aj.length=Q.length+1:=by rw [hpk];simp
   have hwr:IntKind.wrap .i64 ((c.aj.length:Int)-1)=(Q.length:Int):=by rw [wrap_i64 (by omega) (by omega)];omega
   have hd:=h.same (Chg.drew [] w)
   obtain ⟨g,hg⟩:∃g,pa=some ⟨g,0,none⟩:=by
     have hown:w.ownsRow 0 91 3 (.slice pa c.aj.length pc) c.aj.length (c.aj.flatMap pkC):=h.top.holds 2 _ rfl
     exact BI hown (by omega)
   subst hg
   have ldN:∀w' T ps' m',ah w0 [] w' gd ps' m' ((N++q.T gd gr r)++(nF g11 c sa sc (some ⟨g,0,none⟩) pc++T))→(Instr.loadAt 3 (.pointer (some ⟨g,Q.length*3,none⟩))).run Tryz.prog w'=.ok (.int .i64 num) w':=fun w' T ps' m' h'=>by
     have hR:RdE pkC 3 w' (some ⟨g,0,none⟩) c.aj.length pc c.aj:=⟨h'.top.rd (i:=2) rfl,fun _ _=>rfl⟩
     obtain ⟨b,o,hbo,hl⟩:=hR.fld (P:=Tryz.prog) (by decide) jQ (i:=Q.length) (j:=0) (x:=⟨num,0,0⟩) (v:=.int .i64 num) (by rw [hpk];simp) rfl
     simp only [Option.some.injEq,Addr.mk.injEq,and_true] at hbo
     obtain ⟨rfl,rfl⟩:=hbo
     have:=hl w' hR
     rw [Int.toNat_natCast,Nat.zero_add,Nat.add_zero] at this
     exact this
   have ldS:∀ {w':World} {ps' m' T},ah w0 [] w' gd ps' m' ((N++q.T gd gr r)++(nF g11 c sa sc (some ⟨g,0,none⟩) pc++T))→(Instr.loadAt 45 (.pointer (some ⟨g11,0+8,none⟩))).run Tryz.prog w'=.ok (.slice (some ⟨g,0,none⟩) c.aj.length pc) w':=fun h'=>h'.top.ldL (i:=0) (o:=8) rfl (KP _) rfl rfl
   have nilT:∀ {w' ps' m'},ah w0 [] w' gd ps' m' ((N++q.T gd gr r)++nF g11 c sa sc (some ⟨g,0,none⟩) pc)→ah w0 [] w' gd ps' m' ((N++q.T gd gr r)++(nF g11 c sa sc (some ⟨g,0,none⟩) pc++ [])):=fun h'=>by rw [List.append_nil];exact h'
   refine ⟨fun w'=>∃ps' m',ah w0 [] w' gd ps' m' ((N++q.T gd gr r)++(nF g11 c sa sc (some ⟨g,0,none⟩) pc++ [])),⟨_,_,nilT hd⟩,_,_,_,fun w' ⟨_,_,h'⟩=>ldS h',_,_,_,fun w' ⟨_,_,h'⟩=>ldS h',?_⟩
   rw [hwr]
   simp only [Int.toNat_natCast,Nat.zero_add]
   refine ⟨g,0,rfl,by omega,by omega,num,by rw [Nat.zero_add];exact ldN _ [] _ _ (nilT hd),(jo num _ (hT.an hd.chg) hgp).mono ?_⟩
   rintro e w1 ⟨rfl,c1⟩
   have h1:=hd.same c1
   refine ⟨_,rfl,_,ldP h1,(yd (ay num) h1).mono ?_⟩
   rintro e w2 ⟨rfl,c2⟩
   have h2:=h1.same c2
   have endE:∀ {w':World} {ps' m' y cc},ah w0 [] w' gd ps' m' (N++q.T gd gr r)→aX r.K c Q num (O.map ItD.t) m=((m',some y),cc,[])→∃ra rc ps',Ending.returned (.tuple #[.slice none 0 0,bk (some y)])=.returned (.tuple #[.slice ra (aX r.K c Q num (O.map ItD.t) m).2.2.length rc,bk (aX r.K c Q num (O.map ItD.t) m).1.2])∧
     ah w0 [] w' gd ps' (aX r.K c Q num (O.map ItD.t) m).1.1 (N++q.T gd gr r)∧((aX r.K c Q num (O.map ItD.t) m).1.2=none→ah w0 [] w' gd ps' (aX r.K c Q num (O.map ItD.t) m).1.1 ((N++q.T gd gr r)++(nF g11 (aX r.K c Q num (O.map ItD.t) m).2.1 sa sc (some ⟨g,0,none⟩) pc++ [nY ra rc (aX r.K c Q num (O.map ItD.t) m).2.2]))):=fun h' hw=>by
     rw [hw]
     exact ⟨none,0,_,rfl,h',fun hn=>by cases hn⟩
   refine ⟨_,rfl,fun w'=>(bf (ay num) m).2=none∧∃ps',ah w0 [] w' gd ps' (bf (ay num) m).1 ((N++q.T gd gr r)++nF g11 c sa sc (some ⟨g,0,none⟩) pc),⟨fun hin=>?_,fun hout=>?_⟩,?_⟩
   · have ea:bf (ay num) m=aL m (ay num):=by unfold bf;rw [hin];rfl
     refine ⟨_,_,ldD h2,(lC (ay num) h2 (by omega) (by omega)).mono ?_⟩
     rintro e w3 ⟨rfl,h3⟩
     refine ⟨_,rfl,_,au hI _ _ _,fun hbad=>?_,fun hok=>⟨by rw [ea];simpa using hok,_,by rw [ea];exact h3⟩⟩
     obtain ⟨y,hy⟩:=Option.isSome_iff_exists.1 hbad
     rw [hy]
     exact endE h3.cut (by unfold aX;rw [if_neg hxs,ea,hy])
   · have ea:bf (ay num) m=(m,none):=by unfold bf;rw [hout];rfl
     exact ⟨by rw [ea],_,by rw [ea];exact h2⟩
   rintro w4 ⟨ha,ps1,h4⟩
   obtain ⟨m1,hm1⟩:∃m1,(bf (ay num) m).1=m1:=⟨_,rfl⟩
   have hc1:=lR (ay num) m
   rw [hm1] at h4 hc1
   have h4d:=h4.same (Chg.drew [] w4)
   have hwm:aX r.K c Q num (O.map ItD.t) m=(match (svA r.K num (O.map ItD.t) m1).2 with
     | some e=>(((svA r.K num (O.map ItD.t) m1).1,some e),c,[])
     | none=>(aW r.K (gh c Q ⟨num,((aY r.K num (O.map ItD.t)).length:Int),((O.map ItD.t).length:Int)⟩) (svA r.K num (O.map ItD.t) m1).1,gh c Q ⟨num,((aY r.K num (O.map ItD.t)).length:Int),((O.map ItD.t).length:Int)⟩,aT num 16 (O.map ItD.t))):=by
     unfold aX
     rw [if_neg hxs,ha,hm1]
   have hNst:∀ {w':World} {ps' m' T},ah w0 [] w' gd ps' m' ((N++q.T gd gr r)++T)→St w0 [] w' N:=fun h'=>h'.cut.cut.rest
   refine ⟨fun w'=>∃ps' m' T,ah w0 [] w' gd ps' m' ((N++q.T gd gr r)++(nF g11 c sa sc (some ⟨g,0,none⟩) pc++T)),⟨_,_,[],nilT h4d⟩,_,_,fun w' ⟨_,_,_,h'⟩=>ldD h',_,fun w' ⟨_,_,_,h'⟩=>ldK h',_,fun w' ⟨_,_,_,h'⟩=>by rw [Nat.zero_add];exact ldN _ _ _ _ h',(Bt r.K ok.kl num ia _ ic O h4d (hK.an h4d.chg) (hT.an h4d.chg) (hit _ (hNst h4d)) hs (by have:=hc1.1;omega) (by have:=hc1.2;omega)).mono ?_⟩
   rintro e w5 ⟨ra,rc,rfl,ps5,h5⟩
   rw [List.append_assoc] at h5
   obtain ⟨o,ho⟩:∃o,(svA r.K num (O.map ItD.t) m1).2=o:=⟨_,rfl⟩
   rw [ho] at h5 hwm ⊢
   refine ⟨_,_,_,_,_,rfl,_,fun _ h=>h,⟨_,_,_,h5⟩,?_⟩
   have k5:=h5.top.self
   obtain ⟨w6,r6,k6⟩:=k5.MF (i:=2) (j:=Q.length) (k:=3) (vs:=IL o num (aY r.K num (O.map ItD.t)).length O.length) rfl (pqS _) (KG _ _ _ _) (Jv _ _ _ _) (by omega)
   have h6:=h5.qP k6
   refine ⟨w6,by rw [Nat.zero_add];exact r6,_,au hI _ _ _,fun hbad=>?_,fun hok=>?_⟩
   · obtain ⟨y,hy⟩:=Option.isSome_iff_exists.1 hbad
     rw [hy]
     exact endE h6.cut (by rw [hwm,hy])
   · have ho':o=none:=by simpa using hok
     subst ho'
     obtain ⟨p,hp⟩:∃p:PkD,(⟨num,((aY r.K num (O.map ItD.t)).length:Int),((O.map ItD.t).length:Int)⟩:PkD)=p:=⟨_,rfl⟩
     rw [hp] at hwm
     have hcnt:=Ab r.K num (O.map ItD.t) m1
     have hQl:(Q.flatMap pkC).length=Q.length*3:=by rw [fT (k:=3) (fun _ _=>rfl),Nat.mul_comm]
     have hcells:(c.aj.flatMap pkC).take (Q.length*3)++IL none num (aY r.K num (O.map ItD.t)).length O.length++(c.aj.flatMap pkC).drop (Q.length*3+3)=(Q++ [p]).flatMap pkC:=by
       rw [hpk,List.flatMap_append,List.take_append_of_le_length (by omega),List.take_of_length_le (by omega),List.drop_of_length_le (by rw [List.length_append,hQl];exact Nat.le_refl _),List.append_nil,List.flatMap_append,←hp,List.length_map]
       rfl
     have hl2:(Q++ [p]).length=c.aj.length:=by rw [hcl];simp
     refine ⟨ps5,(svA r.K num (O.map ItD.t) m1).1,gh c Q p,aT num 16 (O.map ItD.t),rfl,hwm,hpo,hnm,by rw [←hp];exact hcok,⟨?_,?_⟩,?_⟩
     · have:=hcnt.1;have:=hc1.1;have:=hs.num;omega
     · have:=hcnt.2.1;have:=hc1.2;omega
     · have h7:=h6
       simp only [List.set_append_left,nF,lF,lB] at h7
       unfold nF lB lF gh
       rw [hl2]
       rw [←hcells]
       exact h6
 · have hO:O=[]:=by
     have:O.length=0:=by simpa using hzero
     exact List.eq_nil_of_length_eq_zero this
   subst hO
   refine ⟨q.ps,m,c,[],rfl,rfl,hpo,hnm,hco,⟨by omega,by omega⟩,?_⟩
   have h2:=h.dh ((St.start w).b8 100 35)
   rw [List.append_assoc] at h2
   exact h2
 · rintro a n c0 w7 ⟨ps',m',c',rs,rfl,hw,hpo',hnm',hco',hb',h7⟩
   rw [hw]
   have h7d:=h7.same (Chg.drew [] w7)
   refine ⟨fun w'=>∃ps' m',ah w0 [] w' gd ps' m' ((N++q.T gd gr r)++(nF g11 c' sa sc pa pc++ [nY a c0 rs])),⟨_,_,h7d⟩,_,_,fun w' ⟨_,_,h'⟩=>ldD h',_,fun w' ⟨_,_,h'⟩=>ldK h',_,fun w' ⟨_,_,h'⟩=>h'.top.ldA (i:=0) (l:=bV c' sa c'.snaps.length sc pa c'.aj.length pc) rfl (jM _) (fI _) rfl,(BX c' sa sc pa pc ok.kl h7d hK hT hpo' hnm' hco' hb').mono ?_⟩
   rintro e w8 ⟨rfl,ps'',h8⟩
   exact ⟨_,rfl,_,fun _ h=>h,⟨_,_,h8⟩,a,c0,ps'',rfl,h8.cut,fun _=>h8⟩
end

end Go.Proofs.YtpmhjnhgpplmnaaGreatDoor
end

section
namespace Go.Proofs.YtpmhjnhgpplmnaaGreatDoor
open Go.Shelf
def A8:Go.Shelf.Ren:=⟨fun | 6=>168 | 15=>216 | 14=>251 | 28=>288 | 29=>274 | 20=>303 | 21=>304 | 22=>305 | 23=>306 | 24=>307 | 25=>308 | 26=>309 | 27=>310 | 46=>343 | 47=>332 | 48=>333 | 49=>344 | 50=>345 | 57=>369 | n=>n,fun | 22=>48 | 24=>100 | 25=>257 | 3=>3 | 39=>299 | 0=>0 | 53=>370 | 55=>42 | 4=>4 | 46=>376 | 45=>375 | 50=>73 | 5=>5 | 9=>9 | 66=>434 | 70=>438 | 76=>467 | 77=>315 | n=>n,fun | n=>n⟩
theorem ED:Go.Proofs.SlLaysF0.n6 Tryz.prog A8:= {
 mixed:=by kernel_rfl
 f6:=⟨Tryz.f168.name,by decide,Tryz.func168.trans (congrArg some (by kernel_rfl))⟩
 f14:=⟨Tryz.f251.name,by decide,Tryz.func251.trans (congrArg some (by kernel_rfl))⟩
 f15:=Tryz.func216.trans (congrArg some (by kernel_rfl))
 f20:=⟨Tryz.f303.name,by decide,Tryz.func303.trans (congrArg some (by kernel_rfl))⟩
 f21:=⟨Tryz.f304.name,by decide,Tryz.func304.trans (congrArg some (by kernel_rfl))⟩
 f22:=⟨Tryz.f305.name,by decide,Tryz.func305.trans (congrArg some (by kernel_rfl))⟩
 f23:=⟨Tryz.f306.name,by decide,Tryz.func306.trans (congrArg some (by kernel_rfl))⟩
 f24:=⟨Tryz.f307.name,by decide,Tryz.func307.trans (congrArg some (by kernel_rfl))⟩
 f25:=⟨Tryz.f308.name,by decide,Tryz.func308.trans (congrArg some (by kernel_rfl))⟩
 f26:=⟨Tryz.f309.name,by decide,Tryz.func309.trans (congrArg some (by kernel_rfl))⟩
 f27:=⟨Tryz.f310.name,by decide,Tryz.func310.trans (congrArg some (by kernel_rfl))⟩
 f28:=Tryz.func288.trans (congrArg some (by kernel_rfl))
 f29:=Tryz.func274.trans (congrArg some (by kernel_rfl))
 f46:=⟨Tryz.f343.name,by decide,Tryz.func343.trans (congrArg some (by kernel_rfl))⟩
 f47:=Tryz.func332.trans (congrArg some (by kernel_rfl))
 f48:=Tryz.func333.trans (congrArg some (by kernel_rfl))
 f49:=⟨Tryz.f344.name,by decide,Tryz.func344.trans (congrArg some (by kernel_rfl))⟩
 f50:=⟨Tryz.f345.name,by decide,Tryz.func345.trans (congrArg some (by kernel_rfl))⟩
 f57:=⟨Tryz.f369.name,by decide,Tryz.func369.trans (congrArg some (by kernel_rfl))⟩
 t0:=Tryz.underlying0
 a0:=Tryz.isAgg0
 z0:=Tryz.sizeOf0
 v0:=Tryz.zeroValue0
 t3:=Tryz.underlying3
 a3:=Tryz.isAgg3
 z3:=Tryz.sizeOf3
 v3:=Tryz.zeroValue3
 t4:=Tryz.underlying4
 a4:=Tryz.isAgg4
 z4:=Tryz.sizeOf4
 v4:=Tryz.zeroValue4
 t5:=Tryz.underlying5
 a5:=Tryz.isAgg5
 z5:=Tryz.sizeOf5
 v5:=Tryz.zeroValue5
 t9:=Tryz.underlying9
 a9:=Tryz.isAgg9
 z9:=Tryz.sizeOf9
 v9:=Tryz.zeroValue9
 t22:=Tryz.underlying48
 a22:=Tryz.isAgg48
 z22:=Tryz.sizeOf48
 v22:=Tryz.zeroValue48
 t25:=Tryz.underlying257
 a25:=Tryz.isAgg257
 z25:=Tryz.sizeOf257
 v25:=Tryz.zeroValue257
 t39:=Tryz.underlying299
 a39:=Tryz.isAgg299
 z39:=Tryz.sizeOf299
 v39:=Tryz.zeroValue299
 t45:=Tryz.underlying375
 a45:=Tryz.isAgg375
 z45:=Tryz.sizeOf375
 v45:=Tryz.zeroValue375
 t46:=Tryz.underlying376
 a46:=Tryz.isAgg376
 z46:=Tryz.sizeOf376
 v46:=Tryz.zeroValue376
 t50:=Tryz.underlying73
 a50:=Tryz.isAgg73
 z50:=Tryz.sizeOf73
 v50:=Tryz.zeroValue73
 t53:=Tryz.underlying370
 a53:=Tryz.isAgg370
 z53:=Tryz.sizeOf370
 v53:=Tryz.zeroValue370
 t55:=Tryz.underlying42
 a55:=Tryz.isAgg42
 z55:=Tryz.sizeOf42
 v55:=Tryz.zeroValue42
 t66:=Tryz.underlying434
 a66:=Tryz.isAgg434
 z66:=Tryz.sizeOf434
 v66:=Tryz.zeroValue434
 t70:=Tryz.underlying438
 a70:=Tryz.isAgg438
 z70:=Tryz.sizeOf438
 v70:=Tryz.zeroValue438
 t76:=Tryz.underlying467
 a76:=Tryz.isAgg467
 z76:=Tryz.sizeOf467
 v76:=Tryz.zeroValue467
 t77:=Tryz.underlying315
 a77:=Tryz.isAgg315
 z77:=Tryz.sizeOf315
 v77:=Tryz.zeroValue315 }
end Go.Proofs.YtpmhjnhgpplmnaaGreatDoor
end

section
namespace Go.Proofs.YtpmhjnhgpplmnaaGreatDoor
open Go Sx
set_option maxRecDepth 8000

def CR (x y:bq):Int:=gP x.id y.id
theorem GY (x y:bq):ltOf CR x y=lexLt x.id y.id:=by unfold ltOf CR;exact HH _ _
theorem MI:Sort.SWO (ltOf CR) where
 irrefl x:=by rw [GY];exact lex_irrefl _
 trans x y z h1 h2:=by rw [GY] at*;exact lex_trans _ _ _ h1 h2
 ntrans x y z h1 h2:=by
   rw [GY] at*
   cases h:lexLt x.id z.id with
   | false=>rfl
   | true=>
     cases h3:lexLt z.id y.id with
     | true=>rw [lex_trans _ _ _ h h3] at h1;cases h1
     | false=>have e:=sC _ _ h2 h3;rw [e] at h1;rw [h1] at h;cases h

theorem LB (blk off size:Nat) (w:World):CmpLays Tryz.prog 218 #[] aC 35 CR blk off size w:=fun _ _ _ _ x y=>(NL x y _).mono fun _ _ ⟨h1,h2⟩=>⟨h1,h2⟩

theorem yq (d:Array bq):(Sort.flatK aC 35 d).toList=d.toList.flatMap aC:=by
 have hl:∀x∈d.toList,(aC x).length=35:=fun x _=>aI x
 apply List.ext_getElem?
 intro t
 have hs:=fT hl
 by_cases ht:t<d.size*35
 · have h1:t / 35<d.size:=by omega
   have h2:=wY hl (i:=t / 35) (j:=t%35) (x:=d[t / 35]) (by simp [h1]) (by omega)
   rw [show t / 35*35+t%35=t by omega] at h2
   rw [h2]
   have h3:t%35<(aC d[t / 35]).length:=by rw [aI];omega
   have hz:t<(Sort.flatK aC 35 d).size:=by simpa using ht
   rw [Array.getElem?_toList,Array.getElem?_eq_getElem hz,List.getElem?_eq_getElem h3]
   have:=Sort.get_flatK aC 35 d t ht
   rw [getElem!_pos _ t hz,getElem!_pos d (t / 35) h1,getElem!_pos (aC d[t / 35]) (t%35) h3] at this
   rw [this]
 · rw [List.getElem?_eq_none (by simp;omega),List.getElem?_eq_none (by rw [hs];simp;omega)]

theorem KN (F cur:Array Value) (h:F.size≤cur.size):(Sort.putCells id 0 F cur).size=cur.size∧(Sort.putCells id 0 F cur).toList.take F.size=F.toList:=by
 refine ⟨by simp [Sort.putCells],?_⟩
 apply List.ext_getElem?
 intro i
 rw [List.getElem?_take]
 by_cases hi:i<F.size
 · rw [if_pos hi]
   simp only [Sort.putCells,Array.getElem?_toList,Array.getElem?_mapIdx]
   rw [Array.getElem?_eq_getElem (by omega),Array.getElem?_eq_getElem hi]
   simp [hi,getElem!_pos F i hi]
 · rw [if_neg hi,List.getElem?_eq_none (by simp;omega)]

theorem I9 {w0 w:World} {X:List Nat} {M:List Res} (hS:St w0 X w M) {i:Nat} {a:Option Addr} {n c:Nat} {l:List bq} (hi:M[i]?=some (.row 100 35 (.slice a n c) n (l.flatMap aC))) (hb:n<4611686018427387904):
   Calls Tryz.prog 168 #[.slice a n c,.func (.func 218) #[] #[]] w fun e w'=>e=.returned (.tuple #[])∧
     ∃l':List bq,l'.Perm l∧l'.Pairwise (fun x y=>lexLt y.id x.id=false)∧St w0 X w' (M.set i (.row 100 35 (.slice a n c) n (l'.flatMap aC))):=by
 have hh:w.ownsRow 0 100 35 (.slice a n c) n (l.flatMap aC):=hS.holds i _ hi
 have hln:l.length=n:=by
   have h1:=hh.1
   rw [fT fun x _=>aI x] at h1
   omega
 rcases hh.2 with ⟨h0,rfl⟩ | ⟨g,cap,cur,h0,_,hg,hnc,hcm,hcs,htk⟩
 · have h:=AnyF.slices_SortFunc_none ED a c (.func (.func 218) #[] #[]) w
   refine Calls.mono h ?_
   rintro e w' ⟨rfl,rfl⟩
   have hl:l=[]:=List.eq_nil_of_length_eq_zero hln
   subst hl
   refine ⟨rfl,[],List.Perm.refl _,List.Pairwise.nil,?_⟩
   have hset:M.set i (.row 100 35 (.slice a 0 c) 0 (([]:List bq).flatMap aC))=M:=by
     apply List.ext_getElem?
     intro j
     rw [List.getElem?_set]
     by_cases e:i=j
     · subst e;rw [if_pos rfl,if_pos (List.getElem?_eq_some_iff.1 hi).1,hi]
     · rw [if_neg e]
   rw [hset]
   exact hS
 · simp only [Value.slice.injEq] at h0
   obtain ⟨rfl,_,rfl⟩:=h0
   have hsz:l.toArray.size=n:=by simpa using hln
   have hlt:g<w.heap.size:=(Array.getElem?_eq_some_iff.1 hg).1
   have hH:Sort.HoldsK aC 35 w g 0 l.toArray:=by
     intro j hj
     have hj':j<n*35:=by simpa [hln] using hj
     refine ⟨?_,by simp [World.frozen?,hg]⟩
     have h1:(Sort.flatK aC 35 l.toArray)[j]! =cur[j]'(by rw [hcs];have:=Nat.mul_le_mul_right 35 hnc;omega):=by
       have e:=yq l.toArray
       rw [List.toList_toArray,←htk] at e
       have e2:=congrArg (fun q=>q[j]?) e
       simp only [Array.getElem?_toList,List.getElem?_take,if_pos hj'] at e2
       rw [Array.getElem?_eq_getElem hj,Array.getElem?_eq_getElem (by rw [hcs];have:=Nat.mul_le_mul_right 35 hnc;omega)] at e2
       rw [getElem!_pos _ j hj]
       exact Option.some.inj e2
     rw [id,h1,cell_of_row w g (0+j) cur _ _ hg,Nat.zero_add]
     exact Array.getElem?_eq_getElem _
   have eg:∀args w,(callFunc 218 args).run Tryz.prog w=.ok (.enter 218 args) w:=fun args w=>mM (by kernel_rfl) args w
   have h:=AnyQ.slices_SortFunc ED 35 Tryz.isAgg100 Tryz.sizeOf100 aC aI dR CR MI 218 #[] g 0 c l.toArray w eg (LB g 0 l.toArray.size w) hH hlt (by omega)
   rw [hsz] at h
   refine Calls.mono h ?_
   rintro e w' ⟨rfl,d',q,os,hp,hs,rfl⟩
   obtain ⟨hp1,hp2,hp3⟩:=hp
   have hd:d'.size=n:=by omega
   have hperm:d'.toList.Perm l:=by
     have e1:(d'.extract 0 n).toList=d'.toList:=by rw [←hd];simp
     have e2:(l.toArray.extract 0 n).toList=l:=by rw [←hsz];simp
     rw [e1,e2] at hp3
     exact hp3
   have hsrt:d'.toList.Pairwise fun x y=>lexLt y.id x.id=false:=by
     rw [List.pairwise_iff_getElem]
     intro j k hj hk hjk
     have hj2:j<d'.size:=by simpa using hj
     have hk2:k<d'.size:=by simpa using hk
     have:=hs j k (Nat.zero_le _) hjk (by omega)
     rw [GY,getElem!_pos d' k hk2,getElem!_pos d' j hj2] at this
     simpa using this
   have hF:(Sort.flatK aC 35 d').size≤cur.size:=by rw [Sort.size_flatK,hd,hcs];exact Nat.mul_le_mul_right 35 hnc
   obtain ⟨p1,p2⟩:=KN (Sort.flatK aC 35 d') cur hF
   have hheap:(sortWorldK aC 35 w g 0 q d' os).heap=(w.heap.modify g (Sort.onCells (Sort.putCells id 0 (Sort.flatK aC 35 d'))))++os:=rfl
   have hgz:(sortWorldK aC 35 w g 0 q d' os).heap[g]?=some (.cells (Sort.putCells id 0 (Sort.flatK aC 35 d') cur) 100 (0,0)):=by
     rw [hheap,Array.getElem?_append_left (by simpa using hlt),Array.getElem?_modify,if_pos rfl,hg]
     rfl
   refine ⟨rfl,d'.toList,hperm,hsrt,hS.upd hi ⟨rfl,rfl,rfl,by rw [hheap];simp,fun k hk hx=>?_⟩ ⟨?_,.inr ⟨g,c,_,rfl,Nat.zero_le _,hgz,hnc,hcm,by rw [p1,hcs],?_⟩⟩ fun k hk=>.inl hk⟩
   · have hne:g≠k:=fun e=>hx (by simp [Res.fp,Value.ownBlock,e])
     rw [hheap,Array.getElem?_append_left (by simpa using hk),Array.getElem?_modify,if_neg hne]
   · rw [fT fun x _=>aI x]
     simp [hd,Nat.mul_comm]
   · rw [←yq,←p2,Sort.size_flatK,hd]

end Go.Proofs.YtpmhjnhgpplmnaaGreatDoor
end
