/- The proof of RepoNoneCardSaid, part 8: what it rests on (conditions: those that each theorem names). -/
import Derived.Test.YtpmhjnhgpplmnaaGreatDoorS7
import Derived.Stop.LaidErr
section
namespace Go.Proofs.YtpmhjnhgpplmnaaGreatDoor
open Go Sx
set_option maxRecDepth 8000

theorem uN {j k:Nat} {m:af} {r:af×Option Int} {f:af→af×Option Int} (h:Cnt j m r.1) (hf:∀m',Cnt k m' (f m').1):Cnt (j+k) m (aP r f).1:=by
 unfold aP
 cases r.2 with
 | some e=>exact h.mono (by omega)
 | none=>exact h.trans (hf _)
theorem JV (pw salt ms:List UInt8) (s:gJ) (m:af):Cnt 23 m (jy pw salt ms s m).1:=by
 unfold jy
 exact uN (j:=1) (k:=22) (rT _ _) fun _=>uN (j:=1) (k:=21) (rI _ _ _) fun _=>uN (j:=1) (k:=20) (yY _ _) fun _=>rO _ _ _
theorem Ed {pw salt m:List UInt8} (hok:mS pw=true) (hs:salt.length=16) (hm:m.length=32):(iD pw salt m).length=101∧eS pw (iD pw salt m)=some m:=by
 have hl8:=fW (fC pw salt) 1 salt m (by omega)
 obtain ⟨b,hb⟩:∃b,dA (fC pw salt) 1 salt m=b:=⟨_,rfl⟩
 have ho:=xy (fC pw salt) 1 salt m (by omega)
 rw [hb] at hl8 ho
 have hf:iD pw salt m=fN++(salt++b):=by rw [iD,if_pos hok,hb,List.append_assoc]
 have h8:fN.length=8:=rfl
 have hlen:(iD pw salt m).length=101:=by rw [hf];simp [h8,hs,hl8,hm]
 refine ⟨hlen,?_⟩
 have t8:(iD pw salt m).take 8=fN:=by rw [hf];exact List.take_left' h8
 have dd8:(iD pw salt m).drop 8=salt++b:=by rw [hf];exact List.drop_left' h8
 have s16:((iD pw salt m).drop 8).take 16=salt:=by rw [dd8];exact List.take_left' hs
 have d24:(iD pw salt m).drop 24=b:=by
   rw [show (24:Nat)=8+16 from rfl,←List.drop_drop,dd8];exact List.drop_left' hs
 rw [eS,if_pos ⟨hok,hlen,t8⟩,s16,d24,ho]

noncomputable def KA:List UInt8:=bw jl
def yJ:List UInt8:=List.replicate 16 0
noncomputable def kfA:List UInt8:=iD [120] yJ jl
noncomputable def x9 (s:Int):af:=(jy [120] yJ jl gI (jH s)).1
theorem DS:gI.poly<18446744073709551616:=by decide
theorem xw {s:Int} (h0:1000≤s) (hs:s≤67108864):(jy [120] yJ jl gI (jH s)).2=none∧Calm (x9 s)∧(x9 s).steps=9∧(x9 s).chs.length≤23∧kU KA kfA (fZ gI) [] [] [] 301 2 s (x9 s):=by
 have hl:=(Ed (pw:=[120]) (salt:=yJ) (m:=jl) (by decide) (by decide) (by decide)).1
 have hck:aH (fZ gI)=true:=mO Gh
 have he:=BH (bw jl) (kH hck ⟨DS,by simp [fZ],by simp [fZ]⟩)
 simp only [fZ,List.length_nil] at he
 obtain ⟨h1,h2,h3,L,Z,ro,sv⟩:=CK [120] yJ jl Gh DS hs (by rw [hl];show (101:Int)+((jI (bw jl) (fZ gI)).length:Int)≤s;unfold fZ;omega)
 have hc:=(JV [120] yJ jl gI (jH s)).2
 refine ⟨h1,h2,h3,by have:(jH s).chs.length=0:=rfl;show (jy [120] yJ jl gI (jH s)).1.chs.length≤23;omega,L,Z,ro,sv.imp (fun _ h=>h) (fun _ h=>h) ?_ (Nat.le_refl _)⟩
 rw [hl]
 unfold fZ
 omega
theorem C1 {K a b:List UInt8} (h:idF K a≠idF K b):aQ K [] [] [a,b,a]=[I8 K a,I8 K b]:=by
 have hs:∀id,kr [] [] id=false:=fun _=>rfl
 simp [aQ,fS,bJ,hs,I8,Ne.symm h]
theorem Ja {g n:Int} {ps:List PkD} {sn:List dY} (hg:1≤g∧g≤1099511627776) (hn:0≤n∧n≤1099511627776) (hl:ps.length≤1024) (hp:oo n (-1) ps=true) (hsl:sn.length≤64) (hs:sn.all bP=true) (ha:FB sn=true):aH ⟨g,n,gI,sn,ps⟩=true:=by
 unfold aH jL
 simp only [Gh,Bool.and_eq_true,decide_eq_true_eq]
 exact ⟨⟨⟨hg.1,hg.2,hn.1,hn.2⟩,trivial,hsl,hl⟩,hs,ha,hp⟩

theorem F5:∃m2 r2,eR ⟨KA,fZ gI,[],false⟩ (x9 10000) [[120],[121],[120]] [] []=((m2,none),r2)∧r2.K=KA∧r2.S.length=2∧r2.C.gen=2∧getM r2 m2 (idF KA [121])=(none,[121])∧cH (aQ KA [] [] [[120],[121],[120]]):=by
 obtain ⟨_,hc,_,_,hh⟩:=xw (s:=10000) (by decide) (by decide)
 have hx:=C1 (K:=KA) (a:=[120]) (b:=[121]) yQ
 obtain ⟨hsm,hnum,hsum⟩:=CH KA [] [] (ls:=[[120],[121],[120]]) (t:=138) (by decide) (by decide) (by decide) (by decide)
 have hn:ApN KA (fZ gI) [] [] [[120],[121],[120]] [] [] 600 300 301 2 10000:=by
   refine ⟨?_,hsm,by decide,by simp,?_,fun ok=>?_,by decide,by decide⟩
   · rw [hx]
     show jK (fZ gI) [] [] true=none
     unfold jK
     rw [if_neg (by decide),if_neg (by decide),if_pos]
     exact Ja (by decide) (by decide) (by decide) (by decide) (by decide) (by decide) (by decide)
   · have:=HC KA (fZ gI).next hsm
     simp only [List.length_cons,List.length_nil] at hnum
     omega
   · have:=BH KA ok
     refine Nat.le_trans this ?_
     rw [hx]
     show 200+100*0+27*1≤300
     decide
 obtain ⟨h1,h2,h3,h4⟩:=F2 hh hc hn hx
 obtain ⟨⟨⟨m2,e2⟩,r2⟩,hA⟩:∃A,eR ⟨KA,fZ gI,[],false⟩ (x9 10000) [[120],[121],[120]] [] []=A:=⟨_,rfl⟩
 rw [hA] at h1 h2 h3 h4
 simp only at h1 h2 h3 h4
 subst h1 h2
 refine ⟨m2,_,hA,rfl,?_,rfl,?_,hsm⟩
 · obtain ⟨L,Z,ro,_⟩:=h4
   have:=ro.rl.refs.length_eq
   rw [Ey] at this
   exact this
 · obtain ⟨p,hp,h5,h6⟩:=h4.get h3.d (id:=idF KA [121]) (by
     obtain ⟨L,Z,ro,_⟩:=hh
     have:=(ro.rl.there [] [[120],[121],[120]] (n:=(fZ gI).next) (by decide) hsm).1 [121] (by simp)
     rw [hx] at this
     exact this)
   rw [h6]
   simp only [List.nil_append,List.mem_cons,List.not_mem_nil,or_false] at hp
   rcases hp with rfl | rfl | rfl
   · exact absurd h5 yQ
   · rfl
   · exact absurd h5 yQ

end Go.Proofs.YtpmhjnhgpplmnaaGreatDoor
end

section
namespace Go.Proofs.YtpmhjnhgpplmnaaGreatDoor
open Go Sx
set_option maxRecDepth 8000

theorem D7:Tryz.prog.underlying 52=some (.pointer 145):=Tryz.underlying52
theorem Hg (C:bR) (sa:Option Addr) (sn sc:Nat) (pa:Option Addr) (pn pc:Nat) (w:World):(Instr.field 47 (.agg (bV C sa sn sc pa pn pc).toArray) 0).run Tryz.prog w=.ok (.int .i64 C.gen) w:=by
 have hu:=Tryz.underlying47
 simp [Instr.field,run_underlying hu,part,jQ,bV,fieldPlace,asAgg]

set_option maxHeartbeats 4000000 in
theorem AW (w:World) (hK:cR w) (hT:jr w) (hE:rV w):Calls Tryz.prog 45 #[] w fun e w'=>e=.returned (.bool true)∧Chg [] w w':=by
 obtain ⟨mI,hI⟩:=eI
 apply nJ
 refine (A2 w).mono ?_
 rintro e w1 ⟨gs,rfl,k1⟩
 obtain ⟨g1,w2,r2,k2⟩:=k1.az Mg
 obtain ⟨w3,r3,k3⟩:=k2.stA (i:=1) (v:=cq gI) rfl (seS _) rfl rfl (qS _)
 have k3:St w [] w3 [.row 5 1 (.slice (some ⟨gs,0,none⟩) 48 48) 48 (bv (List.replicate 48 0)),.arr g1 44 (cq gI)]:=k3
 refine ⟨_,_,_,_,rfl,g1,w2,r2,w3,r3,(sE 10000 w3).mono ?_⟩
 rintro e w4 (⟨hbad,_⟩ | ⟨_,gd,rfl,h4⟩)
 · omega
 have h4:=ah.under k3 h4
 refine ⟨_,_,rfl,fun x w'=>x=false∧w'=w4,⟨_,au hI none _ _,fun h=>(by cases h),fun _=>⟨_,vq .eql (.inl rfl) dkT _ _ _ _,rfl,rfl⟩⟩,?_⟩
 rintro x w5 ⟨rfl,rfl⟩
 refine ⟨fun h=>(by cases h),fun _=>(Ej ⟨#[120]⟩ (e:=21) h4 rfl hK hT hE (by decide)).mono ?_⟩
 rintro e w6 ⟨rfl,c6⟩
 have h6:=h4.same c6
 refine ⟨_,_,rfl,_,h6.rest.ldA (i:=1) (l:=cq gI) rfl (seA _) (seS _) rfl,(z6 ⟨#[120]⟩ (some ⟨gs,0,none⟩) 48 48 (List.replicate 48 0) gI h6 rfl rfl hK hT hE (h6.rest.rd (i:=0) rfl) (by decide) ⟨by decide,by decide⟩).mono ?_⟩
 rintro e w7 ⟨_,_,h7⟩
 obtain ⟨i1,hc,hst,hch,_⟩:=xw (s:=10000) (by decide) (by decide)
 obtain ⟨gr,rfl,q,ok,h7⟩:=(h7 (by decide) Gh).2 i1
 have h7:ah w [] w7 gd q.ps (x9 10000) ([.row 5 1 (.slice (some ⟨gs,0,none⟩) 48 48) 48 (bv (List.replicate 48 0)),.arr g1 44 (cq gI)]++q.T gd gr ⟨KA,fZ gI,[],false⟩):=h7
 have ok:ROk ⟨KA,fZ gI,[],false⟩ q:=ok
 refine ⟨_,_,rfl,fun x w'=>x=false∧w'=w7,⟨_,lY hI (some 21) 21 _ _ _,fun h=>(by simp at h),fun _=>⟨_,au hI none _ _,fun h=>(by cases h),fun _=>⟨_,vq .eql (.inl rfl) D7 _ _ _ _,fun h=>(by cases h),fun _=>(Ff h7).mono ?_⟩⟩⟩,?_⟩
 · rintro e w8 ⟨rfl,rfl⟩
   exact ⟨_,rfl,by rw [hst];rfl,rfl⟩
 rintro x w9 ⟨rfl,rfl⟩
 obtain ⟨g3,w10,r10,k10⟩:=(St.start w9).lit bT [.int .u8 120] (by simp [Value.oneCell']) (by simp)
 obtain ⟨w11,o11,r11,k11,q11⟩:=j9 (l:=[120]) k10 (i:=0) rfl
 obtain ⟨g5,w12,r12,k12⟩:=k11.lit bT [.int .u8 121] (by simp [Value.oneCell']) (by simp)
 obtain ⟨w13,o13,r13,k13,q13⟩:=j9 (l:=[121]) k12 (i:=1) rfl
 obtain ⟨g7,w14,r14,k14⟩:=k13.lit bT [.int .u8 120] (by simp [Value.oneCell']) (by simp)
 obtain ⟨w15,o15,r15,k15,q15⟩:=j9 (l:=[120]) k14 (i:=2) rfl
 obtain ⟨g9,w16,r16,k16⟩:=k15.lit bbT [.slice (some ⟨g3,0,none⟩) 1 1,.slice (some ⟨g5,0,none⟩) 1 1,.slice (some ⟨g7,0,none⟩) 1 1] (by simp [Value.oneCell']) (by simp)
 obtain ⟨m2,r2',hA,hr2K,hS2,hG2,hg2,hsm⟩:=F5
 have hr16:eL w16 [.slice (some ⟨g3,0,none⟩) 1 1,.slice (some ⟨g5,0,none⟩) 1 1,.slice (some ⟨g7,0,none⟩) 1 1] [[120],[121],[120]]:=FC (q11 _ (k16.holds 0 _ rfl)) (FC (q13 _ (k16.holds 1 _ rfl)) (FC (q15 _ (k16.holds 2 _ rfl)) (NG _)))
 have hap:=FG (some ⟨g9,0,none⟩) 3 3 _ [[120],[121],[120]] none 0 0 [] none 0 0 [] ⟨q,ok,h7.same k16.chg⟩ hK hT (k16.rd (i:=3) rfl) hr16 (by decide) (by decide) (RdE.nil _) (by simp) (by simp) (by decide) (fun _ _=>⟨Cells.nil _ _,rfl,Nat.le_refl _,fun _=>rfl⟩) (by decide) hsm (by omega) (by omega)
 rw [hA] at hap
 refine ⟨fun h=>(by cases h),fun _=>⟨_,_,_,_,r10,_,_,_,_,r11,_,_,_,_,r12,_,_,_,_,r13,_,_,_,_,r14,_,_,_,_,r15,_,_,_,_,r16,hap.mono ?_⟩⟩
 rintro e w17 ⟨rfl,q2,ok2,h17⟩
 have ok2:ROk r2' q2:=ok2
 have h17:ah w [] w17 gd q2.ps m2 ([.row 5 1 (.slice (some ⟨gs,0,none⟩) 48 48) 48 (bv (List.replicate 48 0)),.arr g1 44 (cq gI)]++q2.T gd gr r2'):=h17
 refine ⟨_,rfl,(IF ok2 h17).mono ?_⟩
 rintro e w18 ⟨rfl,c18⟩
 have h18:=h17.same c18
 obtain ⟨g11,w19,r19,k19⟩:=(St.start w18).lit bT [.int .u8 121] (by simp [Value.oneCell']) (by simp)
 obtain ⟨w20,o20,r20,k20,q20⟩:=j9 (l:=[121]) k19 (i:=0) rfl
 refine ⟨_,rfl,_,_,_,_,r19,_,_,_,_,r20,(Jz r2'.K (some ⟨g11,0,none⟩) 1 1 [121] w20 ok2.kl (q20 _ (k20.holds 0 _ rfl)) (by decide)).mono ?_⟩
 rintro e w21 ⟨rfl,c21⟩
 have h21:=(h18.same k20.chg).same c21
 rw [←hr2K] at hg2
 have hget:=KM (idF r2'.K [121]) (by simp [idF]) ok2 h21 hK hT
 rw [hg2] at hget
 refine ⟨_,rfl,hget.mono ?_⟩
 rintro e w22 ⟨ba,bc,rfl,k22⟩
 have h22:=h21.same k22.chg
 refine ⟨_,_,_,_,rfl,_,kg hI none _ _,fun _=>⟨_,kg hI none _ _,fun _=>⟨_,toStr bS bE sS (k22.rd (i:=0) rfl).cells rfl,fun _=>(H7 ok2 h22 (by omega)).mono ?_,fun h=>by simp at h⟩,fun h=>(by cases h)⟩,fun h=>(by cases h)⟩
 rintro e w23 ⟨ra,rn,rc,q3,rfl,hq3,ok3,h23⟩
 have hrn:rn=2:=by
   have hr:RdR w23 ra rn rc r2'.S:=⟨h23.rest.rd (i:=0) rfl,fun x _=>aI x⟩
   have:=hr.num (by decide)
   omega
 subst hrn
 rw [←hq3] at h23
 refine ⟨_,_,_,rfl,fun _=>(Bn ok3 h23).mono ?_,fun h=>by simp at h⟩
 rintro e w24 ⟨sa,sc,pa,pc,rfl,k24⟩
 exact ⟨_,rfl,_,Hg _ _ _ _ _ _ _ _,by rw [hG2];rfl,(h23.same k24.chg).chg⟩

end Go.Proofs.YtpmhjnhgpplmnaaGreatDoor
end

section
namespace Go.Proofs.YtpmhjnhgpplmnaaGreatDoor
open Go Sx
set_option maxRecDepth 8000

theorem D4 (s:ByteArray) (a:Option Addr) (n c:Nat) (salt:List UInt8) (w:World) (hr:RdB w a n c salt) (hb:n+(bG s).length≤1000000000000):
   Calls Tryz.prog 152 #[.string s,.slice a n c] w fun e w'=>e=.returned (.agg (bv (fC (bG s) salt)).toArray)∧Chg [] w w':=by
 apply nN
 obtain ⟨g1,w1,r1,h1⟩:=(St.start w).az kyZ
 obtain ⟨g2,c2,w2,r2,hc2,hr2,_⟩:=ug s (bG s) (GZ s) w1
 have h2:=h1.same hc2
 refine ⟨g1,w1,r1,_,_,_,_,r2,(qN a n c salt _ _ c2 (bG s) _ [107,101,121] w2 rfl (h2.rd1 hr) hr2 (by simp;omega)).mono ?_⟩
 rintro e w3 ⟨rfl,c3⟩
 have h3:=h2.same c3
 refine ⟨_,rfl,(uW _ w3 (by simp)).mono ?_⟩
 rintro e w4 ⟨rfl,c4⟩
 obtain ⟨w5,r5,h5⟩:=(h3.same c4).stA (i:=0) (v:=bv (fC (bG s) salt)) rfl (kyS _) (by simp) (by simp) (aG _)
 exact ⟨_,rfl,w5,r5,_,h5.bF (i:=0) (l:=bv (fC (bG s) salt)) rfl (kyA _) (kyS _) (by simp),rfl,h5.chg⟩

theorem JU (s:ByteArray):((decide ((s.size:Int)<(1:Int)))||(decide ((s.size:Int)>(1024:Int))))= !mS (bG s):=by
 have key:∀n:Nat,(decide ((n:Int)<1)||decide ((n:Int)>1024))= !decide (1≤n∧n≤1024):=fun n=>by rw [Bool.eq_iff_iff];simp;omega
 rw [Am,mS,key]

theorem BA (s:ByteArray) (a:Option Addr) (n c:Nat) (file:List UInt8) (w:World) (hr:RdB w a n c file):
   Calls Tryz.prog 58 #[.string s,.slice a n c] w fun e w'=>e=.returned (.tuple #[.agg (bv (fG (bG s) file)).toArray,.int .i64 ((eu (bG s) file).getD 0)])∧Chg [] w w':=by
 have hl:=hr.bh
 have hle:=hr.le
 apply mw
 obtain ⟨g1,w1,r1,h1⟩:=(St.start w).az dP
 obtain ⟨g2,w2,r2,h2⟩:=h1.az dP
 obtain ⟨w3,r3,h3⟩:=h2.stA (i:=1) (v:=bv (List.replicate 32 0)) rfl (cz _) (by simp) (by simp) (aG _)
 have fin:∀w' (D:List UInt8),D.length=32→St w [] w' [.arr g1 39 (bv (List.replicate 32 0)),.arr g2 39 (bv D)]→∃w4,(Instr.storeAt 39 (.pointer (some ⟨g1,0,none⟩)) (.agg (bv D).toArray)).run Tryz.prog w'=.ok () w4∧(loadVar 39 ⟨g1,0,none⟩).run Tryz.prog w4=.ok (.agg (bv D).toArray) w4∧Chg [] w w4:=fun w' D hD h=>by
   obtain ⟨w4,r4,h4⟩:=h.stA (i:=0) (v:=bv D) rfl (cz _) (by simp) (by simp [hD]) (aG _)
   exact ⟨w4,r4,h4.bF (i:=0) (l:=bv D) rfl (jv _) (cz _) (by simp [hD]),h4.chg⟩
 refine ⟨g1,w1,r1,_,Hi _,g2,w2,r2,w3,r3,?_⟩
 rw [JU]
 have ldz:=h3.ldA (i:=1) (T:=39) (l:=bv (List.replicate 32 0)) rfl (jv _) (cz _) (by simp)
 cases hok:mS (bG s) with
 | false=>
   obtain ⟨w4,r4,l4,c4⟩:=fin w3 (List.replicate 32 0) (by simp) h3
   refine ⟨fun _=>⟨_,ldz,w4,r4,_,l4,?_,c4⟩,fun h=>by simp at h⟩
   rw [fG,eS,if_neg (by simp [hok]),eu,hok]
   rfl
 | true=>
   have hlen:1≤(bG s).length∧(bG s).length≤1024:=by simpa [mS] using hok
   refine ⟨fun h=>by simp at h,fun _=>⟨fun x w'=>x=decide (¬(file.length=101∧file.take 8=fN))∧w'=w3,⟨fun h=>?_,fun h=>?_⟩,?_⟩⟩
   · have:¬file.length=101:=by simp at h;omega
     exact ⟨by simp [this],rfl⟩
   · have h101:file.length=101:=by simp at h;omega
     have q8:=ir (k:=8) (h3.rd1 hr) (by omega)
     refine ⟨by omega,by omega,_,toStr bS bE sS q8.cells q8.bh,?_,rfl⟩
     have:=bytes_beq (file.take 8) fN
     rw [show (ByteArray.mk #[97,109,112,104,111,114,97,49])=ByteArray.mk fN.toArray from rfl,this]
     simp [h101]
   rintro x w4 ⟨rfl,rfl⟩
   refine ⟨fun h=>?_,fun h=>?_⟩
   · have h':¬(file.length=101∧file.take 8=fN):=of_decide_eq_true h
     obtain ⟨w5,r5,l5,c5⟩:=fin w4 (List.replicate 32 0) (by simp) h3
     refine ⟨_,ldz,w5,r5,_,l5,?_,c5⟩
     have ho:eS (bG s) file=none:=by rw [eS,if_neg (fun q=>h' q.2)]
     rw [fG,eu,ho,hok]
     rfl
   have h':file.length=101∧file.take 8=fN:=Decidable.not_not.1 (of_decide_eq_false h)
   clear h
   have hn:n=101:=by omega
   subst hn
   obtain ⟨salt,hsalt⟩:∃x,(file.drop 8).take 16=x:=⟨_,rfl⟩
   obtain ⟨fD,hblob⟩:∃x,file.drop 24=x:=⟨_,rfl⟩
   have ho:eS (bG s) file=dJ (fC (bG s) salt) 1 salt fD:=by rw [eS,if_pos ⟨hok,h'⟩,hsalt,hblob]
   have hw:=Chg.drew [] w4
   have q:=(h3.same hw).rd1 hr
   have qs:∀t,iU 1 a 8 c t→RdB w4.drew t 16 (c-8) salt:=fun t27 hs27=>by
     have:=q.sub hs27 (hh:=24) (by omega) (by omega) (by omega) (Nat.le_refl _)
     have e1:((bv file).drop (8*1)).take ((24-8)*1)=bv salt:=by rw [←hsalt,fV,dc]
     rw [e1] at this
     exact this
   refine ⟨by omega,by omega,by omega,fun t27 hs27=>⟨by omega,by omega,by omega,fun t36 hs36=>⟨by omega,by omega,by omega,fun t29 hs29=>?_⟩⟩⟩
   have q1:=qs _ hs27
   have q3:=qs _ hs36
   have q2:RdB w4.drew t29 (101-24) (c-24) fD:=by
     have:=q.sub hs29 (hh:=101) (by omega) (by omega) (by omega) (Nat.le_refl _)
     have e1:((bv file).drop (24*1)).take ((101-24)*1)=bv fD:=by rw [←hblob,dc,List.take_of_length_le (by simp;omega)]
     rw [e1] at this
     exact this
   obtain ⟨K,hKK⟩:∃K,fC (bG s) salt=K:=⟨_,rfl⟩
   have hk:K.length=96:=by rw [←hKK];simp
   have hu:=D4 s _ 16 _ salt w4.drew q1 (by omega)
   rw [hKK] at hu ho
   refine hu.mono ?_
   rintro e w5 ⟨rfl,c5⟩
   have d5:=hw.trans c5
   refine ⟨_,rfl,(Dc K 1 t36 16 (c-8) salt t29 (101-24) (c-24) fD w5 hk (q3.an c5) (q2.an c5) (by omega)).mono ?_⟩
   rintro e w6 ⟨a6,n6,c6,rfl,hc6,hr6,hb6⟩
   obtain ⟨p,hp⟩:∃p,(dJ K 1 salt fD).getD []=p:=⟨_,rfl⟩
   rw [hp] at hr6
   have hbl:=q2.bh
   have hpl:p.length=32∨p=[]:=by
     cases hop:dJ K 1 salt fD with
     | none=>right;rw [←hp,hop];rfl
     | some x=>left;have:=me hop (by omega);rw [←hp,hop];simp;omega
   have hp6:=hr6.bh
   have hn6:n6≤32:=by rcases hpl with h | h<;>simp [h] at hp6<;>omega
   have d6:=d5.trans hc6
   have h6:=h3.same d6
   have hg2:g2<w5.heap.size:=Nat.lt_of_lt_of_le (Res.lt (h3.holds 1 _ rfl) g2 (by simp [Res.fp])) d5.size
   refine ⟨_,_,_,_,rfl,fun x w'=>∃i:Nat,x=(i:Int)∧i≤n6∧RdB w' a6 n6 c6 p∧St w [] w' [.arr g1 39 (bv (List.replicate 32 0)),.arr g2 39 (bv (cB p (List.replicate 32 0) i))],fun x _=>n6-x.toNat,⟨0,rfl,by omega,hr6,by rw [dN];exact h6⟩,?_⟩
   rintro x w7 ⟨i,rfl,hi,hr7,h7⟩
   refine ⟨fun h=>?_,fun h=>?_⟩
   · have hi':i<n6:=by simp at h;omega
     have hp32:p.length=32:=by rcases hpl with h | h<;>simp [h] at hp6 ⊢ <;>omega
     refine ix0 hr7.cells hp6 i (by omega) fun bl o ha q=>⟨bl,o,ha,by omega,by omega,_,q w7 hr7.cells,by omega,by omega,?_⟩
     have hbi:p[i]?=some (p.getD i 0):=by
       rw [List.getD,List.getElem?_eq_getElem (by omega)]
       rfl
     have hml:(cB p (List.replicate 32 (0:UInt8)) i).length=32:=by simp [cB];omega
     obtain ⟨w8,r8,h8⟩:=h7.stB (i:=1) (o:=i) (T:=5) (b:=p.getD i 0) rfl (sB1 _) (show 0+Int.toNat (i:Int)*1=i by omega) (by omega)
     obtain ⟨w8',r8',h8'⟩:=(St.AH (h7.holds 1 _ rfl)).stB (i:=0) (o:=i) (T:=5) (l:=cB p (List.replicate 32 (0:UInt8)) i) (b:=p.getD i 0) rfl (sB1 _) (show 0+Int.toNat (i:Int)*1=i by omega) (by omega)
     have ew:w8'=w8:=by
       have:=r8'.symm.trans r8
       simp only [Result.ok.injEq,true_and] at this
       exact this
     rw [iE (by rw [hp32,List.length_replicate]) hbi] at h8
     refine ⟨w8,r8,⟨i+1,aq hi' (by omega),by omega,?_,h8⟩,aB hi' (by omega)⟩
     rw [ew] at h8'
     refine hr7.keep h8'.chg fun ad e=>?_
     have:=hb6 ad e
     simp
     omega
   · have hi':i=n6:=by simp at h;omega
     have f1:cB p (List.replicate 32 (0:UInt8)) i=fG (bG s) file:=by
       rw [fG,ho]
       cases hop:dJ K 1 salt fD with
       | none=>
         have:p=[]:=by rw [←hp,hop];rfl
         subst this
         have:i=0:=by simp at hp6;omega
         subst this
         rw [dN]
         rfl
       | some x=>
         have hx:p=x:=by rw [←hp,hop];rfl
         have hp32:p.length=32:=by have:=me hop (by omega);rw [hx];omega
         have:=iH (x:=p) (l:=List.replicate 32 (0:UInt8)) (by rw [hp32,List.length_replicate])
         rw [List.length_replicate] at this
         have hi32:i=32:=by omega
         rw [hi32,this,hx]
         rfl
     have hfl:=pG (bG s) file
     rw [f1] at h7
     obtain ⟨w9,r9,l9,c9⟩:=fin w7 _ hfl h7
     refine ⟨_,h7.ldA (i:=1) rfl (jv _) (cz _) (by simp [hfl]),w9,r9,_,l9,?_,c9⟩
     have:eu (bG s) file=jD K 1 salt fD:=by
       rw [eu,hok,ho,jD];rfl
     rw [this]

end Go.Proofs.YtpmhjnhgpplmnaaGreatDoor
end

section
namespace Go.Proofs.YtpmhjnhgpplmnaaGreatDoor
open Go Sx
set_option maxRecDepth 8000

theorem FY:((Tryz.prog.fieldsOf 41).toList.map fun f=>(f.type,f.offset))=[(39,0),(39,32),(39,64)]:=by kernel_rfl
theorem HD:((Tryz.prog.fieldsOf 41).toList.all fun f=>f.name != "_")=true:=by kernel_rfl

theorem Mz (x y:Operand) (K:List UInt8) (hk:K.length=96) (w:World):(dK .neq 41 x y (.agg (bv K).toArray) (.agg (bv K).toArray)).run Tryz.prog w=.ok (.bool false) w:=by
 have hp:∀o,o+32≤96→(part 39 (bv K).toArray o).run Tryz.prog w=.ok (.agg (bv ((K.drop o).take 32)).toArray) w:=fun o ho=>by
   have:(bv K).toArray.extract o (o+32)=(bv ((K.drop o).take 32)).toArray:=by
     apply Array.ext'
     simp only [List.extract_toArray,List.extract_eq_take_drop,fV,dc]
     congr 2
     omega
   simp only [part,Sem.run_bind,jv,Result.andThen_ok,if_true,cz,Sem.run_pure,this]
 have he:∀l:List UInt8,l.length=32→(Op.equalIn 9999 39 (.agg (bv l).toArray) (.agg (bv l).toArray)).run Tryz.prog w=.ok true w:=fun l hl=>by
   rw [mY]
   exact Lc (d:=9998) Tryz.underlying39 sB1 bA (fun a w=>by rw [run_equalIn_int w 9997 _ .u8 .u8 a a bE];simp) _ (by simp [hl]) w
 have key:∀fs:List Field,(fs.map fun f=>(f.type,f.offset))=[(39,0),(39,32),(39,64)]→(fs.all fun f=>f.name != "_")=true→(Op.eqFields 9999 (bv K).toArray (bv K).toArray fs).run Tryz.prog w=.ok true w:=by
   intro fs h1 h2
   rcases fs with _ | ⟨f0,_ | ⟨f1,_ | ⟨f2,_ | ⟨f3,fs⟩⟩⟩⟩
   case cons.cons.cons.nil=>
     simp only [List.map_cons,List.map_nil,List.cons.injEq,Prod.mk.injEq,and_true] at h1
     simp only [List.all_cons,List.all_nil,Bool.and_true,Bool.and_eq_true,bne_iff_ne] at h2
     obtain ⟨⟨a0,b0⟩,⟨a1,b1⟩,a2,b2⟩:=h1
     obtain ⟨n0,n1,n2⟩:=h2
     have st:∀(f:Field) (gs:List Field) (o:Nat),f.type=39→f.offset=o→o+32≤96→f.name≠ "_" →(Op.eqFields 9999 (bv K).toArray (bv K).toArray gs).run Tryz.prog w=.ok true w→(Op.eqFields 9999 (bv K).toArray (bv K).toArray (f::gs)).run Tryz.prog w=.ok true w:=by
       intro f gs o h1 h2 h3 h4 h5
       have:=hp o h3
       rw [←h1,←h2] at this
       exact zD h4 this this (by rw [h1];exact he _ (by simp;omega)) h5
     exact st f0 _ 0 a0 b0 (by omega) n0 (st f1 _ 32 a1 b1 (by omega) n1 (st f2 _ 64 a2 b2 (by omega) n2 (by simp [Op.eqFields])))
   all_goals simp at h1
 exact (FQ (by kernel_rfl) (by kernel_rfl) (by kernel_rfl) x y (key _ FY HD)).2

end Go.Proofs.YtpmhjnhgpplmnaaGreatDoor
end

section
namespace Go.Proofs.YtpmhjnhgpplmnaaGreatDoor
open Go Sx
set_option maxRecDepth 8000

theorem vS (s:ByteArray):bM s=mS (bG s):=rfl
theorem FZ {pw:ByteArray} {m:af} (hk:vk m cO=true):Lh pw m=eu (bG pw) (jO m cO):=by
 unfold Lh La
 rw [hk,vS]
 cases h:mS (bG pw) with
 | true=>rfl
 | false=>unfold eu;rw [h];rfl

set_option maxHeartbeats 4000000 in
theorem zl (a0:ByteArray) (a:Option Addr) (n c:Nat) (seed:List UInt8) (s:gJ) (w:World) (hK:cR w) (hT:jr w) (hE:rV w) (hp:s.poly<W64) (hr:RdB w a n c seed):
   Calls Tryz.prog 9 #[.string a0,.slice a n c,.agg (cq s).toArray] w fun e w'=>e=.returned (.bool true)∧Chg [] w w':=by
 obtain ⟨mI,hI⟩:=eI
 have hln:=hr.bh
 apply lM
 obtain ⟨g5,w1,r1,k1⟩:=(St.start w).b7 (P:=Tryz.prog) 44 (cq s)
 have k1:St w [] w1 [.arr g5 44 (cq s)]:=k1
 have ldS:∀ {w':World},St w [] w' [.arr g5 44 (cq s)]→(Instr.loadAt 44 (.pointer (some ⟨g5,0,none⟩))).run Tryz.prog w'=.ok (.agg (cq s).toArray) w':=fun k=>k.ldA (i:=0) (l:=cq s) rfl (seA _) (seS _) rfl
 refine ⟨g5,w1,r1,(AW w1 (hK.an k1.chg) (hT.an k1.chg) (hE.an k1.chg)).mono ?_⟩
 rintro e w2 ⟨rfl,c2⟩
 have k2:=k1.same c2
 refine ⟨_,rfl,fun h=>(by cases h),fun _=>⟨fun _=>⟨rfl,k2.chg⟩,fun hsmall=>⟨_,AE w2,(Ou w2 _).mono ?_⟩⟩⟩
 rintro e w3 ⟨rfl,c3⟩
 have k3:=k2.same c3
 refine ⟨_,_,_,_,rfl,fun x w'=>x=false∧St w [] w' [.arr g5 44 (cq s)],⟨_,lY hI (some 28) 28 _ _ _,fun h=>(by simp at h),fun _=>(Lx w3 none 0 0 none 0 0 none 0 0).mono ?_⟩,?_⟩
 · rintro e w4 ⟨rfl,c4⟩
   have k4:=k3.same c4
   refine ⟨_,rfl,_,lY hI (some 28) 28 _ _ _,fun h=>(by simp at h),fun _=>⟨_,AE w4,(Oc w4 _).mono ?_⟩⟩
   rintro e w5 ⟨rfl,c5⟩
   have k5:=k4.same c5
   refine ⟨_,rfl,fun h=>(by cases h),fun _=>(Mw w5).mono ?_⟩
   rintro e w6 ⟨rfl,rfl⟩
   refine ⟨_,_,_,rfl,fun h=>(by simp at h),fun _=>(HQ _).mono ?_⟩
   rintro e w7 ⟨rfl,rfl⟩
   refine ⟨_,_,_,rfl,fun h=>(by simp at h),fun _=>(MQ _).mono ?_⟩
   rintro e w8 ⟨rfl,c8⟩
   have k8:=k5.same c8
   refine ⟨_,rfl,_,vH w8,_,Mz _ _ _ (by simp) w8,fun h=>(by cases h),fun _=>(Hu w8).mono ?_⟩
   rintro e w9 ⟨rfl,c9⟩
   exact ⟨_,rfl,_,Hg CQ none 0 0 none 0 0 w9,rfl,k8.same c9⟩
 rintro x w10 ⟨rfl,k10⟩
 refine ⟨fun h=>(by cases h),fun _=>⟨_,ldS k10,(MN w10 a0 a n c (cq s)).mono ?_⟩⟩
 rintro e w11 ⟨rfl,c11⟩
 have k11:=k10.same c11
 refine ⟨_,_,rfl,(Nr w11 a0).mono ?_⟩
 rintro e w12 ⟨rfl,rfl⟩
 refine ⟨_,_,rfl,fun x w'=>x=false∧w'=w12,⟨_,lY hI (some 28) 28 _ _ _,fun h=>(by simp at h),fun _=>⟨_,lY hI (some 28) 28 _ _ _,rfl,rfl⟩⟩,?_⟩
 rintro x w13 ⟨rfl,rfl⟩
 refine ⟨fun h=>(by cases h),fun _=>(sE 10000 w13).mono ?_⟩
 rintro e w14 (⟨hbad,_⟩ | ⟨_,gd,rfl,h14⟩)
 · omega
 have h14:=ah.under k11 h14
 refine ⟨_,_,rfl,_,ldS h14.rest,(z6 a0 a n c seed s h14 rfl rfl hK hT hE (hr.an h14.chg) hp ⟨by decide,by decide⟩).mono ?_⟩
 rintro e w15 ⟨hF,hB,hI'⟩
 have hcond:((((decide ((a0.size:Int)<(1:Int)))||(decide ((a0.size:Int)>(1024:Int))))||((n:Int) != (48:Int)))=true)↔(bM a0=false∨seed.length≠48):=by
   unfold bM
   rw [hln]
   simp only [Bool.or_eq_true,decide_eq_true_eq,bne_iff_ne,ne_eq,decide_eq_false_iff_not]
   omega
 by_cases hform:bM a0=false∨seed.length≠48
 · obtain ⟨rfl,h15⟩:=hF hform
   refine ⟨_,_,rfl,fun _=>⟨_,vq .eql (.inl rfl) D7 _ _ _ _,fun _=>⟨_,Cj hI (some 28) 28 _ _ _,by simp,h15.chg⟩,fun h=>(by cases h)⟩,fun h=>absurd (hcond.2 hform) (by rw [h];simp)⟩
 have hsk:bM a0=true:=by
   cases h:bM a0 with
   | true=>rfl
   | false=>exact absurd (.inl h) hform
 have hsl:seed.length=48:=by
   rcases Nat.decEq seed.length 48 with h | h
   · exact absurd (.inr h) hform
   · exact h
 have hno:¬((((decide ((a0.size:Int)<(1:Int)))||(decide ((a0.size:Int)>(1024:Int))))||((n:Int) != (48:Int)))=true):=fun h=>hform (hcond.1 h)
 cases hset:bz s with
 | false=>
   obtain ⟨rfl,h15⟩:=hB hform hset
   refine ⟨_,_,rfl,fun h=>absurd h hno,fun _=>⟨_,ldS h15.rest,(sQ s hp w15).mono ?_⟩⟩
   rintro e w16 ⟨rfl,c16⟩
   rw [hset]
   exact ⟨_,rfl,fun _=>⟨_,vq .eql (.inl rfl) D7 _ _ _ _,fun _=>⟨_,Cj hI (some 11) 11 _ _ _,by simp,(h15.same c16).chg⟩,fun h=>(by cases h)⟩,fun h=>by simp at h⟩
 | true=>
   have hl:=(Ed (pw:=bG a0) (salt:=seed.take 16) (m:=seed.drop 16) (by rw [←vS];exact hsk) (by simp [hsl]) (by simp [hsl])).1
   have hck:aH (fZ s)=true:=mO hset
   have he:=BH (bw (seed.drop 16)) (kH hck ⟨hp,by simp [fZ],by simp [fZ]⟩)
   simp only [fZ,List.length_nil] at he
   obtain ⟨i1,i2,_,i4⟩:=CK (bG a0) (seed.take 16) (seed.drop 16) hset hp (s:=10000) (by decide) (by rw [hl];unfold fZ;omega)
   obtain ⟨gr,rfl,q,ok,h15⟩:=(hI' hform hset).2 i1
   obtain ⟨m1,hm1⟩:∃m1,(jy (bG a0) (seed.take 16) (seed.drop 16) s (jH 10000)).1=m1:=⟨_,rfl⟩
   rw [hm1] at i2 i4 h15
   obtain ⟨L,Z,ro,sv⟩:=i4
   obtain ⟨ik,hL,hZ⟩:=ro.key
   obtain ⟨f1,_,_,f4⟩:=Gf sv i2.d hL hZ
   have hkey:vk m1 cO=true:=by rw [uy,sv.cur.1 _ hL];rfl
   have h15c:ah w [] w15 gd q.ps m1 [.arr g5 44 (cq s)]:=h15.cut
   refine ⟨_,_,rfl,fun h=>absurd h hno,fun _=>⟨_,ldS h15c.rest,(sQ s hp w15).mono ?_⟩⟩
   rintro e w16 ⟨rfl,c16⟩
   rw [hset]
   have h16:=h15c.same c16
   refine ⟨_,rfl,fun h=>by simp at h,fun _=>(Aq cO h16).mono ?_⟩
   rintro e w17 ⟨fa,fn,fc,rfl,f17⟩
   have h17:=h16.same f17.1
   have hadd:∀(w':World) (x y:Operand),(dK .add 9 x y (.string a0) (.string (ByteArray.mk #[120]))).run Tryz.prog w'=.ok (.string (a0++ByteArray.mk #[120])) w':=fun w' x y=>Of a0 (ByteArray.mk #[120]) x y w' (by
     have:(ByteArray.mk #[120]).size=1:=rfl
     simp only [Bool.or_eq_false_iff,decide_eq_false_iff_not] at hsmall
     omega)
   obtain ⟨pw,hpw⟩:∃pw,a0++ByteArray.mk #[120]=pw:=⟨_,rfl⟩
   rw [hpw] at hadd
   refine ⟨_,_,_,_,rfl,pw,hadd w17 _ _,(BA pw fa fn fc (jO m1 cO) w17 f17.rdB).mono ?_⟩
   rintro e w18 ⟨rfl,c18⟩
   have h18:=h17.same c18
   obtain ⟨g17,w19,r19,k19⟩:=(St.start w18).az dP
   obtain ⟨w20,r20,k20⟩:=k19.stA (i:=0) (v:=bv (fG (bG pw) (jO m1 cO))) rfl (cz _) (by simp) (by rw [cL];exact pG _ _) (aG _)
   have h20:=h18.same k20.chg
   refine ⟨_,_,rfl,g17,w19,r19,w20,r20,fun _=>⟨_,vq .neq (.inr rfl) D7 _ _ _ _,fun _=>⟨_,kg hI none _ _,fun _=>⟨_,kg hI _ _ _,by rw [f1];rfl,h20.chg⟩,fun h=>(by cases h)⟩,fun h=>(by cases h)⟩,fun hne=>⟨_,hadd w20 _ _,?_⟩⟩
   obtain ⟨e1,he1⟩:∃e1,eu (bG pw) (jO m1 cO)=some e1:=by
     cases h:eu (bG pw) (jO m1 cO) with
     | none=>rw [h] at hne;simp at hne
     | some y=>exact ⟨y,rfl⟩
   refine (Ej pw h20 i2.d hK hT hE (by rw [FZ hkey];exact he1)).mono ?_
   rintro e w21 ⟨rfl,c21⟩
   refine ⟨_,_,rfl,_,vq .neq (.inr rfl) D7 _ _ _ _,fun _=>⟨_,kg hI none _ _,fun _=>⟨_,kg hI _ _ _,fun _=>(J4 (some e1) w21 (by rw [he1] at hne;simpa using hne)).mono ?_,fun h=>(by rw [f1] at h;cases h)⟩,fun h=>(by cases h)⟩,fun h=>(by cases h)⟩
   rintro e w22 ⟨rfl,rfl⟩
   exact ⟨_,rfl,by rw [he1];simp,(h20.same c21).chg⟩

end Go.Proofs.YtpmhjnhgpplmnaaGreatDoor
end

section
namespace Go.Proofs.YtpmhjnhgpplmnaaGreatDoor
open Go Sx
set_option maxRecDepth 8000

theorem Jw:(Rows.laid_internal_strconv_uint64pow10:DataW Unit)=Lib.tabData .u64 Lib.pow10Tab:=by kernel_rfl
theorem A4 {W:World} {rest:List (String×DataW Unit)} (hp:∀w,laidMetH Tryz.prog (("internal/strconv.uint64pow10",Rows.laid_internal_strconv_uint64pow10)::rest) w=laidMet Tryz.prog (("internal/strconv.uint64pow10",Rows.laid_internal_strconv_uint64pow10)::rest) w) (h:laidMetH Tryz.prog (("internal/strconv.uint64pow10",Rows.laid_internal_strconv_uint64pow10)::rest) W):jr W:=by
 rw [hp,Jw] at h
 have hg:Tryz.prog.globalNamed "internal/strconv.uint64pow10" =some 3:=by kernel_rfl
 exact Lib.tabIs_of_head hg (by kernel_rfl) Tryz.underlying459 Tryz.underlying42 (by kernel_rfl) (by kernel_rfl) h

end Go.Proofs.YtpmhjnhgpplmnaaGreatDoor
end

section
namespace Go.Proofs.YtpmhjnhgpplmnaaGreatDoor
open Go Sx
set_option maxRecDepth 8000

theorem Kq (u:TypeId) (h:Tryz.prog.typeName? 3 u=some "*errors.errorString"):u=455:=by
 have e: "*" ++ "errors.errorString" = "*errors.errorString" :=by decide
 exact typeName_ptr_named (nm:= "errors.errorString") (by rw [e];kernel_rfl) (by kernel_rfl) (by decide) u (by rw [e];exact h)
theorem Cd:Tryz.prog.cellsOf 457=1:=by kernel_rfl
theorem GP:Tryz.prog.cellsOf 9=1:=by kernel_rfl
theorem BW {W:World} (h1:laidMetH Tryz.prog [("strconv.ErrSyntax",Rows.laid_strconv_ErrSyntax)] W) (h2:laidMetH Tryz.prog [("strconv.ErrRange",Rows.laid_strconv_ErrRange)] W):rV W:=by
 rw [MakeChecks.laidMetH_plain _ _ _ (by kernel_rfl)] at h1 h2
 have g1:Tryz.prog.globalNamed "strconv.ErrSyntax" =some 0:=by kernel_rfl
 have g2:Tryz.prog.globalNamed "strconv.ErrRange" =some 1:=by kernel_rfl
 have t1:(Tryz.prog.globals[0]?).map (·.type)=some 58:=by kernel_rfl
 have t2:(Tryz.prog.globals[1]?).map (·.type)=some 58:=by kernel_rfl
 obtain ⟨a,_,v1,_⟩:=laid_sentinel h1 g1 t1 Tryz.underlying58 Kq Tryz.underlying455 Tryz.underlying457 rfl rfl Tryz.underlying9 Cd GP
 obtain ⟨b,_,v2,_⟩:=laid_sentinel h2 g2 t2 Tryz.underlying58 Kq Tryz.underlying455 Tryz.underlying457 rfl rfl Tryz.underlying9 Cd GP
 exact ⟨⟨_,_,v1⟩,_,_,v2⟩

end Go.Proofs.YtpmhjnhgpplmnaaGreatDoor
end

section
namespace Go.Proofs.YtpmhjnhgpplmnaaGreatDoor
open Go Sx Go.ChangeShapes Go.WideShapes Go.RowKit
set_option maxRecDepth 8000

theorem K8 {α:Type} (l:List α) (i a:Nat):(l.drop i).take a++l.drop (i+a)=l.drop i:=by
 have:=List.take_append_drop a (l.drop i);rwa [List.drop_drop] at this
theorem Js {H:Type} {enc:TypeId×Value→H} {W:World} {fuel:Nat} {cs:List Value} {x:DataW H×List MemPlace} (hf:DataW.trod enc Tryz.prog W 0 (fun _=>true) true fuel 44 cs=some x):∃s:gJ,cs=cq s∧s.poly<18446744073709551616∧I63 s.win∧I63 s.min∧I63 s.max∧I63 s.bits:=by
 have hu:=Tryz.underlying44
 obtain ⟨xs,m,_,hx,hlen,hxl,hel⟩:=DataW.trod_struct hu hf
 have c1:Tryz.prog.cellsOf 42=1:=by kernel_rfl
 have c2:Tryz.prog.cellsOf 3=1:=by kernel_rfl
 have cT:Tryz.prog.cellsOf 44=5:=by kernel_rfl
 have hx5:xs.length=5:=hxl
 have hlen:cs.length=5:=by rw [←cT];exact hlen
 have k0:DataW.trod enc Tryz.prog W 0 (fun _=>true) true m 42 ((cs.drop 0).take (Tryz.prog.cellsOf 42))=xs[0]?:=hel 0 _ rfl
 have k1:DataW.trod enc Tryz.prog W 0 (fun _=>true) true m 3 ((cs.drop 1).take (Tryz.prog.cellsOf 3))=xs[1]?:=hel 1 _ rfl
 have k2:DataW.trod enc Tryz.prog W 0 (fun _=>true) true m 3 ((cs.drop 2).take (Tryz.prog.cellsOf 3))=xs[2]?:=hel 2 _ rfl
 have k3:DataW.trod enc Tryz.prog W 0 (fun _=>true) true m 3 ((cs.drop 3).take (Tryz.prog.cellsOf 3))=xs[3]?:=hel 3 _ rfl
 have k4:DataW.trod enc Tryz.prog W 0 (fun _=>true) true m 3 ((cs.drop 4).take (Tryz.prog.cellsOf 3))=xs[4]?:=hel 4 _ rfl
 rw [c1] at k0
 rw [c2] at k1 k2 k3 k4
 rw [List.getElem?_eq_getElem (by omega)] at k0 k1 k2 k3 k4
 obtain ⟨z0,e0,_,w0⟩:=DataW.trod_int Tryz.underlying42 k0
 obtain ⟨z1,e1,_,w1⟩:=DataW.trod_int Tryz.underlying3 k1
 obtain ⟨z2,e2,_,w2⟩:=DataW.trod_int Tryz.underlying3 k2
 obtain ⟨z3,e3,_,w3⟩:=DataW.trod_int Tryz.underlying3 k3
 obtain ⟨z4,e4,_,w4⟩:=DataW.trod_int Tryz.underlying3 k4
 have b0:=bounds_u64 w0
 have b1:=bounds_i64 w1
 have b2:=bounds_i64 w2
 have b3:=bounds_i64 w3
 have b4:=bounds_i64 w4
 obtain ⟨p,rfl⟩:∃p:Nat,z0=(p:Int):=⟨z0.toNat,by omega⟩
 refine ⟨⟨p,z1,z2,z3,z4⟩,?_,by show p<18446744073709551616;omega,⟨by show-9223372036854775808≤z1;omega,by show z1≤9223372036854775807;omega⟩,⟨by show-9223372036854775808≤z2;omega,by show z2≤9223372036854775807;omega⟩,⟨by show-9223372036854775808≤z3;omega,by show z3≤9223372036854775807;omega⟩,⟨by show-9223372036854775808≤z4;omega,by show z4≤9223372036854775807;omega⟩⟩
 have t0:=K8 cs 0 1
 have t1:=K8 cs 1 1
 have t2:=K8 cs 2 1
 have t3:=K8 cs 3 1
 have t4:(cs.drop 4).take 1=cs.drop 4:=List.take_of_length_le (by simp;omega)
 rw [e0] at t0
 rw [e1] at t1
 rw [e2] at t2
 rw [e3] at t3
 rw [e4] at t4
 simp only [Nat.zero_add,Nat.reduceAdd,List.drop_zero] at t0 t1 t2 t3
 rw [←t0,←t1,←t2,←t3,←t4]
 rfl
end Go.Proofs.YtpmhjnhgpplmnaaGreatDoor
end

section
namespace Go.Proofs.YtpmhjnhgpplmnaaGreatDoor
open Go Sx Go.ChangeShapes Go.WideShapes Go.RowKit
set_option maxRecDepth 8000

theorem Lq {H:Type} {enc:TypeId×Value→H} {W:World} {base:Nat} {v:Value} {d:DataW H} {ps:List MemPlace} (hval:Value.okWide Tryz.prog W .any base 44 v)
   (h:DataW.Trod enc Tryz.prog W 0 (fun _=>true) true 44 v d ps):∃s:gJ,v=.agg (cq s).toArray∧s.poly<W64:=by
 obtain ⟨cs,rfl,_⟩:=okWide_struct Tryz.underlying44 hval
 obtain ⟨fuel,hf⟩:=h
 obtain ⟨s,e,hp,_⟩:=Js hf
 have e:cs.toList=cq s:=e
 exact ⟨s,by rw [←e],hp⟩

end Go.Proofs.YtpmhjnhgpplmnaaGreatDoor
end
