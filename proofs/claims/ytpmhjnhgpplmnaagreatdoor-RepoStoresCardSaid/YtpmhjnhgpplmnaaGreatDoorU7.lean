/- The proof of RepoStoresCardSaid, part 7: what it rests on (conditions: those that each theorem names). -/
import Derived.Test.YtpmhjnhgpplmnaaGreatDoorU6
import Derived.Test.YtpmhjnhgpplmnaaGreatDoorRows
section
namespace Go.Proofs.YtpmhjnhgpplmnaaGreatDoor
open Go Sx
set_option maxRecDepth 8000

theorem vO (gd:Nat) (w:World):(Instr.build 142 #[(0,pV gd)]).run Tryz.prog w=.ok (plV gd) w:=by
 have hb:Tryz.prog.built 142=fun parts=>Instr.fill (fun i=>(#[(0,1)]:Array (Nat×Nat))[i]?) #[.pointer none] parts:=by kernel_rfl
 apply run_build
 rw [hb]
 show Instr.fill _ _ [(0,_)]=_
 rw [aC (off:=0) (sz:=1) rfl rfl (by simp)]
 rfl
theorem DC (s:iS) (w:World):(Instr.build 47 #[(0,.int .i64 1),(2,.agg (cZ s).toArray)]).run Tryz.prog w=.ok (.agg (bP ⟨1,0,s,[],[]⟩ none 0 0 none 0 0).toArray) w:=by
 have hb:Tryz.prog.built 47=fun parts=>Instr.fill (fun i=>(#[(0,1),(1,1),(2,5),(7,1),(8,1)]:Array (Nat×Nat))[i]?) jK.toArray parts:=by kernel_rfl
 apply run_build
 rw [hb]
 show Instr.fill _ _ [(0,_),(2,_)]=_
 rw [aC (off:=0) (sz:=1) rfl rfl (by simp [jK]),aC (off:=2) (sz:=5) rfl rfl (by simp [jK,Value.cells])]
 rfl
def Ml:List Value:=[.pointer none,.pointer none]++(bv (List.replicate 96 0)++(jK++ [Value.slice none 0 0,Value.bool false]))
theorem Fx:Tryz.prog.built 145=fun parts=>Instr.fill (fun i=>(#[(0,1),(1,1),(2,96),(98,9),(107,1),(108,1)]:Array (Nat×Nat))[i]?) Ml.toArray parts:=by kernel_rfl
theorem DL (gd gi:Nat) (r:gx) (hk:r.K.length=96) (hd:r.dead=false) (hs:r.C.snaps=[]) (hp:r.C.aq=[]) (w:World):
   (Instr.build 145 #[(0,plV gd),(1,pV gi),(2,.agg (bv r.K).toArray),(3,.agg (bP r.C none 0 0 none 0 0).toArray)]).run Tryz.prog w=.ok (.agg (fD gd gi r none 0 none 0).toArray) w:=by
 have hbl:(bv r.K).length=96:=by simp [hk]
 have hz:(bv (List.replicate 96 0)).length=96:=by simp
 apply run_build
 rw [Fx]
 show Instr.fill _ _ [(0,_),(1,_),(2,_),(3,_)]=_
 rw [aC (off:=0) (sz:=1) rfl rfl (by simp [Ml])]
 rw [aC (off:=1) (sz:=1) rfl rfl (by simp [Ml,Value.cells])]
 show Instr.fill _ ([pV gd,pV gi]++(bv (List.replicate 96 0)++(jK++ [Value.slice none 0 0,Value.bool false]))).toArray [(2,_),(3,_)]=_
 rw [aC (off:=2) (sz:=96) rfl (by simp [Value.cells,hk]) (by simp [jK])]
 have e1:([pV gd,pV gi]++(bv (List.replicate 96 0)++(jK++ [Value.slice none 0 0,Value.bool false]))).toArray.toList.take 2++(Value.agg (bv r.K).toArray).cells.toList++([pV gd,pV gi]++(bv (List.replicate 96 0)++(jK++ [Value.slice none 0 0,Value.bool false]))).toArray.toList.drop (2+96)=fD gd gi ⟨r.K,E6,[],false⟩ none 0 none 0:=by
   show [pV gd,pV gi]++bv r.K++(bv (List.replicate 96 0)++(jK++ [Value.slice none 0 0,Value.bool false])).drop 96=_
   rw [List.drop_append_of_le_length (by simp),List.drop_of_length_le (by simp),List.nil_append,List.append_assoc]
   rfl
 rw [e1,aC (off:=98) (sz:=9) rfl rfl (by rw [List.size_toArray,tr (r:=⟨r.K,E6,[],false⟩) hk];decide)]
 have e2:=vr (gd:=gd) (gi:=gi) (r:=⟨r.K,E6,[],false⟩) hk none 0 none 0 r.C none 0 none 0 r.S
 rw [hs,hp] at e2
 have e3:(⟨r.K,r.C,r.S,false⟩:gx)=r:=by rw [←hd]
 have e2:(fD gd gi ⟨r.K,E6,[],false⟩ none 0 none 0).take 98++bP r.C none 0 0 none 0 0++(fD gd gi ⟨r.K,E6,[],false⟩ none 0 none 0).drop 107=fD gd gi r none 0 none 0:=by
   rw [←e3];exact e2
 show Instr.fill _ ((fD gd gi ⟨r.K,E6,[],false⟩ none 0 none 0).take 98++bP r.C none 0 0 none 0 0++(fD gd gi ⟨r.K,E6,[],false⟩ none 0 none 0).drop 107).toArray []=_
 rw [e2]
 rfl

theorem CU {w:World} {b o c n:Nat} {l:List UInt8} {T:TypeId} (hA:(isAgg T).run Tryz.prog w=.ok true w) (hS:(sizeOf T).run Tryz.prog w=.ok n w) (h:RdB w (some ⟨b,o,none⟩) n c l) (hn:0<n):(Instr.loadAt T (.pointer (some ⟨b,o,none⟩))).run Tryz.prog w=.ok (.agg (bv l).toArray) w:=by
 have hl:=h.bB
 rcases h.cells with h0 | ⟨b',o',e,hr⟩
 · have:(bv l).length=0:=by rw [h0];rfl
   simp at this;subst this;simp at hl;omega
 · simp only [Option.some.injEq,Addr.mk.injEq,and_true] at e
   obtain ⟨rfl,rfl⟩:=e
   have hrange:w.rangeAt b o (bv l):=fun k v hk=>hr k v hk
   have:=cu (P:=Tryz.prog) hrange
   rw [cN,hl] at this
   simp [Instr.loadAt,Instr.sureAddr,loadVar,hA,hS,this]

theorem qR {s:iS} (h:bO s=true):aI ⟨1,0,s,[],[]⟩=true:=by
 unfold aI jA
 simp [h,DU,iR]
noncomputable def jC (pw salt ms:List UInt8) (s:iS) (m:ah):ah×Option Int:=
 aR (aN m dL) fun m=>aR (aP m dL [iw pw salt ms]) fun m=>aR (cW m dL) fun m=>aX (bD ms) ⟨1,0,s,[],[]⟩ m

theorem plZ (w:World):(zeroValue 142).run Tryz.prog w=.ok (.agg [Value.pointer none].toArray) w:=Tryz.zeroValue142 w
section
variable {w0 w w':World} {N:List Res} {gd:Nat} {ps:List Nat} {m:ah}

set_option maxHeartbeats 4000000 in
theorem Al (pw:ByteArray) (a2:Option Addr) (n2 c2:Nat) (seed:List UInt8) (s:iS) (h:aj w0 [] w gd ps m N) (hd:m.down=false) (hnm:cg m=[]) (hK:cI w0) (hT:iE w0) (hE:ql w0) (hsd:RdB w a2 n2 c2 seed) (hp:s.poly<W64) (hb:B63 30 m):
   Calls Tryz.prog 54 #[pV gd,.string pw,.slice a2 n2 c2,.agg (cZ s).toArray] w fun e w'=>
     (cV pw=false∨seed.length≠48→e=.returned (.tuple #[.pointer none,bG (some 28)])∧aj w0 [] w' gd ps m N)∧
     (¬(cV pw=false∨seed.length≠48)→bO s=false→e=.returned (.tuple #[.pointer none,bG (some 11)])∧aj w0 [] w' gd ps m N)∧
     (¬(cV pw=false∨seed.length≠48)→bO s=true→
       (∀y,(jC (dY pw) (seed.take 16) (seed.drop 16) s m).2=some y→e=.returned (.tuple #[.pointer none,bG (some y)])∧∃ps',aj w0 [] w' gd ps' (jC (dY pw) (seed.take 16) (seed.drop 16) s m).1 N)∧
       ((jC (dY pw) (seed.take 16) (seed.drop 16) s m).2=none→∃gr,e=.returned (.tuple #[pV gr,bG none])∧yJ w0 w' gd gr (jC (dY pw) (seed.take 16) (seed.drop 16) s m).1 ⟨bD (seed.drop 16),⟨1,0,s,[],[]⟩,[],false⟩ N)):=by
 obtain ⟨mI,hI⟩:=eI
 have hsl:=hsd.bB
 apply AK
 obtain ⟨g7,w1,r1,k1⟩:=(St.start w).cz (P:=Tryz.prog) 44 (cZ s)
 have k1:St w [] w1 [.arr g7 44 (cZ s)]:=k1
 have h1:=h.same k1.chg
 refine ⟨g7,w1,r1,(mw pw w1).mono ?_⟩
 rintro e w2 ⟨rfl,rfl⟩
 refine ⟨_,rfl,fun hbad=>?_,fun hgood=>?_⟩
 · have hc:cV pw=false∨seed.length≠48:=by
     simp only [Bool.or_eq_true,Bool.not_eq_true',bne_iff_ne,ne_eq] at hbad
     rcases hbad with hb | hb
     · exact .inl hb
     · exact .inr (by omega)
   exact ⟨fun _=>⟨rfl,h1⟩,fun hn=>absurd hc hn,fun hn=>absurd hc hn⟩
 have hc:¬(cV pw=false∨seed.length≠48):=by
   simp only [Bool.or_eq_false_iff,Bool.not_eq_false',bne_eq_false_iff_eq] at hgood
   rintro (h | h)
   · rw [h] at hgood;cases hgood.1
   · omega
 have hs48:seed.length=48:=by
   rcases Nat.decEq seed.length 48 with h | h
   · exact absurd (.inr h) hc
   · exact h
 refine ⟨_,k1.ldA (i:=0) (l:=cZ s) rfl (Tryz.isAgg44 _) (Tryz.sizeOf44 _) rfl,(nv s hp w2).mono ?_⟩
 rintro e w3 ⟨rfl,c3⟩
 have k3:=k1.same c3
 have h3:=h.same k3.chg
 refine ⟨_,rfl,_,az hI _ _ _,fun hbad=>?_,fun hgood2=>?_⟩
 · have hg:bO s=false:=by
     cases hg:bO s with
     | false=>rfl
     | true=>rw [hg] at hbad;simp at hbad
   rw [hg]
   exact ⟨fun hx=>absurd hx hc,fun _ _=>⟨rfl,h3⟩,fun _ hx=>by cases hx⟩
 have hg:bO s=true:=by
   cases hg:bO s with
   | true=>rfl
   | false=>rw [hg] at hgood2;simp at hgood2
 obtain ⟨g11,w4,r4,k4⟩:=k3.aD plZ
 obtain ⟨w5,r5,k5⟩:=k4.stA (i:=1) (v:=[pV gd]) rfl (plS _) rfl rfl (by simp [pV,Value.oneCell'])
 have k5:St w [] w5 [.arr g7 44 (cZ s),.arr g11 142 [pV gd]]:=k5
 have h5:=h.same k5.chg
 refine ⟨_,vO gd w3,g11,w4,r4,w5,r5,_,_,k5.ldL (i:=1) (o:=0) rfl (pdA _) rfl rfl,(uY h5).mono ?_⟩
 rintro e w6 ⟨rfl,rfl⟩
 refine ⟨_,rfl,fun hx=>(by rw [hd] at hx;cases hx),fun _=>⟨_,k5.ldA (i:=1) (l:=[pV gd]) rfl (plA _) (plS _) rfl,(lX h5 hT hE).mono ?_⟩⟩
 rintro e w7 ⟨rfl,c7⟩
 have k7:=k5.same c7
 have h7:=h.same k7.chg
 refine ⟨_,rfl,fun hx=>(by rw [hnm] at hx;cases hx),fun _=>⟨_,_,k7.ldL (i:=1) (o:=0) rfl (pdA _) rfl rfl,(mU h7).mono ?_⟩⟩
 rintro e w8 ⟨la,lc,rfl,f8⟩
 have k8:=k7.same f8.chg
 have h8:=h.same k8.chg
 refine ⟨_,_,_,rfl,fun x w'=>x=0∧w'=w8,fun _ _=>0,⟨rfl,rfl⟩,?_⟩
 rintro x w9 ⟨rfl,rfl⟩
 refine ⟨fun hx=>(by rw [hnm] at hx;simp at hx),fun _=>⟨by omega,by omega,by have:=hsd.le;omega,fun ta hta=>?_⟩⟩
 have hms:RdB w9 ta (n2-16) (c2-16) (seed.drop 16):=EG (hsd.au k8.chg) hta (by omega)
 have hn32:n2-16=32:=by omega
 rw [hn32] at hms ⊢
 have hml:(seed.drop 16).length=32:=by simp [hs48]
 obtain ⟨b,o,rfl⟩:∃b o,ta=some ⟨b,o,none⟩:=by
   rcases hms.cells with h0 | ⟨b,o,e,_⟩
   · have h00:(bv (seed.drop 16)).length=0:=by rw [h0];rfl
     rw [cN] at h00;omega
   · exact ⟨b,o,e⟩
 obtain ⟨g15,w11,r11,k11⟩:=k8.aD eD
 obtain ⟨w12,r12,k12⟩:=k11.stA (i:=2) (v:=bv (seed.drop 16)) rfl (cL _) (by simp) (by simp [hs48]) (aO _)
 have k12:St w [] w12 [.arr g7 44 (cZ s),.arr g11 142 [pV gd],.arr g15 39 (bv (seed.drop 16))]:=k12
 refine ⟨_,run_arrayAt _ 39 _ 32 _ 32 _ Tryz.underlying39 (Nat.le_refl _),_,CU (jY _) (cL _) hms (by decide),g15,w11,r11,w12,r12,?_⟩
 have hsl16:(seed.take 16).length=16:=by simp [hs48]
 obtain ⟨b2,o2,rfl⟩:∃b o,a2=some ⟨b,o,none⟩:=by
   rcases hsd.cells with h0 | ⟨b,o,e,_⟩
   · have h00:(bv seed).length=0:=by rw [h0];rfl
     rw [cN] at h00;omega
   · exact ⟨b,o,e⟩
 have hsalt:∀ {w':World},Chg [] w w'→RdB w' (some ⟨b2,o2,none⟩) 16 c2 (seed.take 16):=fun hc'=>jc (hsd.au hc') (by omega)
 have hlk:Er (dY pw)=none:=by
   have h1:cV pw=true:=by
     cases ho:cV pw with
     | true=>rfl
     | false=>exact absurd (.inl ho) hc
   have h2:uB (dY pw)=true:=by
     unfold cV at h1
     simp only [decide_eq_true_eq] at h1
     unfold uB
     have:(dY pw).length=pw.size:=by simp [dY]
     rw [decide_eq_true_eq,this]
     exact h1
   rw [Er,h2];rfl
 have k12d:=k12.drew
 refine ⟨fun w'=>∃M':List Res,St w [] w' (.arr g7 44 (cZ s):: .arr g11 142 [pV gd]:: .arr g15 39 (bv (seed.drop 16))::M'),⟨_,k12d⟩,by omega,by have:=hsd.le;omega,_,fun w' _=>run_arrayAt _ 209 _ 16 _ 16 _ Tryz.underlying209 (Nat.le_refl _),_,fun w' ⟨_,k⟩=>CU (Tryz.isAgg209 _) (Tryz.sizeOf209 _) (hsalt k.chg) (by decide),_,fun w' ⟨_,k⟩=>k.ldA (i:=2) (l:=bv (seed.drop 16)) rfl (jY _) (cL _) (by simp [hs48]),
   (Hy pw (seed.take 16) (seed.drop 16) _ (hK.au (h.chg.trans k12d.chg)) hsl16 hml).mono ?_⟩
 rintro e w13 ⟨fa,fn,fc,rfl,f13⟩
 have k13:=f13.add k12d
 refine ⟨_,_,_,_,rfl,_,fun _ h=>h,⟨_,k13⟩,_,az hI _ _ _,fun hbad=>(by rw [hlk] at hbad;cases hbad),fun _=>?_⟩
 have k13d:=k13.drew
 obtain ⟨r,hr⟩:∃r:gx,(⟨bD (seed.drop 16),⟨1,0,s,[],[]⟩,[],false⟩:gx)=r:=⟨_,rfl⟩
 have kl:r.K.length=96:=by rw [←hr];exact og _
 refine ⟨fun w'=>∃M':List Res,St w [] w' (.arr g7 44 (cZ s):: .arr g11 142 [pV gd]:: .arr g15 39 (bv (seed.drop 16))::M'),⟨_,k13d⟩,_,fun w' ⟨_,k⟩=>k.ldA (i:=1) (l:=[pV gd]) rfl (plA _) (plS _) rfl,_,fun w' ⟨_,k⟩=>k.ldA (i:=2) (l:=bv (seed.drop 16)) rfl (jY _) (cL _) (by simp [hs48]),_,fun w' ⟨_,k⟩=>k.ldA (i:=0) (l:=cZ s) rfl (Tryz.isAgg44 _) (Tryz.sizeOf44 _) rfl,_,fun w' _=>DC s w',(JO _).mono ?_⟩
 rintro e w14 ⟨gi,gm,rfl,es,ck,M,hE1,hM1,f14⟩
 have k14:=Sx.St.cq (N:=[]) (by rw [List.append_nil];exact k13d) f14
 refine ⟨_,_,rfl,_,fun _ h=>h,⟨_,k14⟩,(nu (seed.drop 16) w14 hml (hK.au (h.chg.trans k14.chg))).mono ?_⟩
 rintro e w15 ⟨rfl,c15⟩
 have k15:=k14.same c15
 obtain ⟨g90,w16,r16,k16⟩:=k15.cz (P:=Tryz.prog) 145 (fD gd gi r none 0 none 0)
 have hbuild:∀w',(Instr.build 145 #[(0,plV gd),(1,pV gi),(2,.agg (bv (bD (seed.drop 16))).toArray),(3,.agg (bP ⟨1,0,s,[],[]⟩ none 0 0 none 0 0).toArray)]).run Tryz.prog w'=.ok (.agg (fD gd gi r none 0 none 0).toArray) w':=fun w'=>by
   have:=DL gd gi r kl (by rw [←hr]) (by rw [←hr]) (by rw [←hr]) w'
   rw [←hr] at this ⊢
   exact this
 refine ⟨_,rfl,_,fun _ h=>h,⟨_,k15⟩,_,fun w' _=>hbuild w',g90,w16,r16,_,fun _ h=>h,⟨_,k16⟩,?_⟩
 obtain ⟨file,hfile⟩:∃file,iw (dY pw) (seed.take 16) (seed.drop 16)=file:=⟨_,rfl⟩
 obtain ⟨Kt,hKt⟩:∃Kt:List Res,[.arr g7 44 (cZ s),.arr g11 142 [pV gd],.arr g15 39 (bv (seed.drop 16)),.row 5 1 (.slice fa fn fc) fn (bv file),.arr gi 272 [.map (some gm)],.blk gm (.map es ck),.arr g90 145 (fD gd gi r none 0 none 0),lC r.C none 0,kX r.C none 0]=Kt:=⟨_,rfl⟩
 have k17:St w [] w16 Kt:=by
   have:=(k16.bZ 89 36).bZ 91 3
   rw [hfile] at this
   rw [←hKt,←hr] at*
   exact this
 have h17:=h.cR k17
 obtain ⟨EM,hEM⟩:∃EM,jC (dY pw) (seed.take 16) (seed.drop 16) s m=EM:=⟨_,rfl⟩
 have hEM0:EM=aR (aN m dL) fun m=>aR (aP m dL [file]) fun m=>aR (cW m dL) fun m=>aX (bD (seed.drop 16)) ⟨1,0,s,[],[]⟩ m:=by rw [←hEM,←hfile];rfl
 rw [hEM,hr]
 have ldD:∀ {w':World} {ps':List Nat} {m':ah},aj w0 [] w' gd ps' m' (N++Kt)→(Instr.loadAt 51 (.pointer (some ⟨g11,0,none⟩))).run Tryz.prog w'=.ok (pV gd) w':=fun h'=>h'.top.ldL (i:=1) (o:=0) (l:=[pV gd]) (T':=142) (by rw [←hKt];rfl) (pdA _) rfl rfl
 have errR:∀ {w':World} {ps':List Nat} {m':ah} (y:Int),aj w0 [] w' gd ps' m' (N++Kt)→EM=(m',some y)→
     (cV pw=false∨seed.length≠48→Ending.returned (.tuple #[.pointer none,bG (some y)])=.returned (.tuple #[.pointer none,bG (some 28)])∧aj w0 [] w' gd ps m N)∧
     (¬(cV pw=false∨seed.length≠48)→bO s=false→Ending.returned (.tuple #[.pointer none,bG (some y)])=.returned (.tuple #[.pointer none,bG (some 11)])∧aj w0 [] w' gd ps m N)∧
     (¬(cV pw=false∨seed.length≠48)→bO s=true→
       (∀y',EM.2=some y'→Ending.returned (.tuple #[.pointer none,bG (some y)])=.returned (.tuple #[.pointer none,bG (some y')])∧∃ps',aj w0 [] w' gd ps' EM.1 N)∧
       (EM.2=none→∃gr,Ending.returned (.tuple #[.pointer none,bG (some y)])=.returned (.tuple #[pV gr,bG none])∧yJ w0 w' gd gr EM.1 r N)):=fun y h' hE'=>
   ⟨fun hx=>absurd hx hc,fun _ hx=>(by rw [hg] at hx;cases hx),fun _ _=>⟨fun y' hy'=>by
     rw [hE'] at hy' ⊢
     obtain rfl:y=y':=by simpa using hy'
     exact ⟨rfl,_,h'.cut⟩,fun hn=>by rw [hE'] at hn;cases hn⟩⟩
 refine ⟨_,_,ldD h17,(oq dL h17 hb.s hb.c).mono ?_⟩
 rintro e w17 ⟨rfl,ps1,h18⟩
 obtain ⟨m1,hm1⟩:∃m1,(aN m dL).1=m1:=⟨_,rfl⟩
 have hb1:B63 29 m1:=by rw [←hm1];exact B63.of (j:=1) hb (qT m dL)
 rw [hm1] at h18
 refine ⟨_,rfl,_,az hI _ _ _,fun hbad=>?_,fun hgood3=>?_⟩
 · obtain ⟨y,hy⟩:=Option.isSome_iff_exists.1 hbad
   rw [hy]
   exact errR y h18 (by rw [hEM0,aR,hy,hm1])
 have ho1:(aN m dL).2=none:=by simpa using hgood3
 have hEM1:EM=aR (aP m1 dL [file]) fun m=>aR (cW m dL) fun m=>aX (bD (seed.drop 16)) ⟨1,0,s,[],[]⟩ m:=by rw [hEM0,aR,ho1,hm1]
 obtain ⟨gl,w18,r18,k18⟩:=(St.start w17).lit bbT [.slice fa fn fc] (by simp [Value.oneCell']) (by simp)
 refine ⟨_,_,ldD h18,_,_,_,w18,r18,(o8 dL _ 1 1 [.slice fa fn fc] [file] (h18.cR k18) (fun {w3 ps3 m3} h3=>⟨h3.top.rd (i:=0) rfl,eu (aj.top (h3.cut) |>.rd (i:=3) (by rw [←hKt];rfl))⟩) hb1.s (by decide)).mono ?_⟩
 rintro e w19 ⟨rfl,h19⟩
 have h19:=h19.cut
 obtain ⟨m2,hm2⟩:∃m2,(aP m1 dL [file]).1=m2:=⟨_,rfl⟩
 have hb2:B63 28 m2:=by rw [←hm2];exact B63.of (j:=1) hb1 (qF m1 dL [file])
 rw [hm2] at h19
 refine ⟨_,rfl,_,az hI _ _ _,fun hbad=>?_,fun hgood4=>?_⟩
 · obtain ⟨y,hy⟩:=Option.isSome_iff_exists.1 hbad
   rw [hy]
   exact errR y h19 (by rw [hEM1,aR,hy,hm2])
 have ho2:(aP m1 dL [file]).2=none:=by simpa using hgood4
 have hEM2:EM=aR (cW m2 dL) fun m=>aX (bD (seed.drop 16)) ⟨1,0,s,[],[]⟩ m:=by rw [hEM1,aR,ho2,hm2]
 refine ⟨_,_,ldD h19,(uj dL h19 hb2.s).mono ?_⟩
 rintro e w20 ⟨rfl,h20⟩
 obtain ⟨m3,hm3⟩:∃m3,(cW m2 dL).1=m3:=⟨_,rfl⟩
 have hb3:B63 27 m3:=by rw [←hm3];exact B63.of (j:=1) hb2 (xA m2 dL)
 rw [hm3] at h20
 refine ⟨_,rfl,_,az hI _ _ _,fun hbad=>?_,fun hgood5=>?_⟩
 · obtain ⟨y,hy⟩:=Option.isSome_iff_exists.1 hbad
   rw [hy]
   exact errR y h20 (by rw [hEM2,aR,hy,hm3])
 have ho3:(cW m2 dL).2=none:=by simpa using hgood5
 have hEM3:EM=aX (bD (seed.drop 16)) ⟨1,0,s,[],[]⟩ m3:=by rw [hEM2,aR,ho3,hm3]
 have hEM4:EM=aX r.K r.C m3:=by rw [hEM3,←hr]
 have hrs:r.C.snaps=[]:=by rw [←hr]
 have hrp:r.C.aq=[]:=by rw [←hr]
 have hpo:r.C.set.poly<W64:=by rw [←hr];exact hp
 have hck:aI r.C=true:=by rw [←hr];exact qR hg
 have hco:gB r.C:=lV hck ⟨hpo,by rw [hrs];simp,by rw [hrp];simp⟩
 have hnames:∀s∈r.C.snaps,s.name.length≤4611686018427387904:=by rw [hrs];simp
 have h20d:=h20.same (Chg.drew [] w20)
 refine ⟨fun w'=>∃ps' m',aj w0 [] w' gd ps' m' (N++Kt),⟨_,_,h20d⟩,_,fun w' ⟨_,_,h'⟩=>h'.top.ldP (i:=6) (o:=2) (l:=fD gd gi r none 0 none 0) (T':=145) (by rw [←hKt];rfl) (tJ _) (qg _) (jR kl _ _ _ _) (by simp [kl]),_,fun w' ⟨_,_,h'⟩=>h'.top.ldP (i:=6) (o:=98) (l:=fD gd gi r none 0 none 0) (T':=145) (by rw [←hKt];rfl) (kG _) (fT _) (wU kl _ _ _ _) rfl,
   (u9 r.K kl r.C none _ 0 none _ 0 h20d hK hT ⟨hpo,⟨h20d.top.rd (i:=7) (by rw [←hKt];rfl),fun x _=>fk x⟩,⟨h20d.top.rd (i:=8) (by rw [←hKt];rfl),fun _ _=>rfl⟩,hnames⟩ (fun _=>hco) ⟨by have:=hb3.1;omega,by have:=hb3.2;omega⟩).mono ?_⟩
 rintro e w21 ⟨rfl,ps5,h21⟩
 rw [←hEM4] at h21 ⊢
 refine ⟨_,rfl,_,fun _ h=>h,⟨_,_,h21⟩,_,az hI _ _ _,fun hbad=>?_,fun hgood6=>?_⟩
 · obtain ⟨y,hy⟩:=Option.isSome_iff_exists.1 hbad
   have hx:=errR y h21 (Prod.ext rfl hy)
   rw [hy] at hx ⊢
   exact hx
 have hn:EM.2=none:=by simpa using hgood6
 refine ⟨fun hx=>absurd hx hc,fun _ hx=>(by rw [hg] at hx;cases hx),fun _ _=>⟨fun y hy=>(by rw [hn] at hy;cases hy),fun _=>⟨g90,rfl,⟨ps5,gi,gm,es,ck,M,none,0,none,0⟩,⟨hE1,by rw [←hr];exact hM1,kl,hpo,hck,hco,hnames,by rw [hrs];decide,by rw [hrp];decide,by rw [←hr];simp⟩,?_⟩⟩⟩
 have h22:aj w0 [] w21 gd ps5 EM.1 (N++([.arr gi 272 [.map (some gm)],.blk gm (.map es ck)]++ [.arr g90 145 (fD gd gi r none 0 none 0),lC r.C none 0,kX r.C none 0])):=by
   refine h21.tQ (List.Sublist.append_left ?_ _)
   rw [←hKt]
   exact List.Sublist.cons _ (List.Sublist.cons _ (List.Sublist.cons _ (List.Sublist.cons _ (List.Sublist.refl _))))
 exact h22.vB (List.Perm.append_left N List.perm_append_comm)
end

end Go.Proofs.YtpmhjnhgpplmnaaGreatDoor
end

section
namespace Go.Proofs.YtpmhjnhgpplmnaaGreatDoor
open Go Sx
set_option maxRecDepth 8000

section
variable {w0 w w':World} {N:List Res} {gd gr:Nat} {m:ah} {r:gx} {q:uJ}
theorem tU (ok:ROk r q) (h:aj w0 [] w gd q.ps m (N++q.T gd gr r)) (hb:r.S.length≤1000000):Calls Tryz.prog 43 #[pV gr] w fun e w'=>∃(a:Option Addr) (n c:Nat) (q':uJ),e=.returned (.slice a n c)∧q'.ps=q.ps∧ROk r q'∧aj w0 [] w' gd q.ps m ((.row 100 35 (.slice a n c) n (r.S.flatMap aF)::N)++q'.T gd gr r):=by
 apply sj
 refine ⟨_,_,h.top.ldL (i:=0) (o:=1) rfl (Lm _) rfl rfl,(Ht (w0:=w) (X:=[q.gi,q.gm]) (N:=[]) q.gi q.gm r.S (fV.self (ok.idx h)) hb).mono ?_⟩
 rintro e w1 ⟨a,n,c,rfl,es,ck,M,hE,hM,k⟩
 have h1:aj w0 [] w gd q.ps m ((N++ [.arr gr 145 (fD gd q.gi r q.sa q.sc q.pa q.pc),lC r.C q.sa q.sc,kX r.C q.pa q.pc])++ixR q.gi q.gm q.es q.ck):=by
   rw [List.append_assoc];exact h
 have h2:=h1.qw k
 refine ⟨_,_,_,rfl,a,n,c, { q with es:=es,ck:=ck,M:=M },rfl,rfl,⟨hE,hM,ok.kl,ok.poly,ok.chk,ok.cok,ok.names,ok.sn,ok.pn,ok.good⟩,h2.vB ?_⟩
 have e1:∀(A:List Res) (x y z:Res),(A++ [x,y,z]).Perm (z::(A++ [x,y])):=fun A x y z=>by
   have:A++ [x,y,z]=(A++ [x,y])++ [z]:=by simp
   rw [this]
   exact List.perm_append_comm
 refine (e1 _ _ _ _).trans (List.Perm.cons _ ?_)
 rw [List.append_assoc]
 exact List.Perm.refl _
end

end Go.Proofs.YtpmhjnhgpplmnaaGreatDoor
end

section
namespace Go.Proofs.YtpmhjnhgpplmnaaGreatDoor
open Go Sx
set_option maxRecDepth 8000

def Mt (pw:List UInt8) (m:ah):Option Int:=if yF m dL then ng pw (oW m dL) else if E0 (cg m) then some 10 else some 21
section
variable {w0 w w':World} {N:List Res} {gd:Nat} {ps:List Nat} {m:ah}

theorem FX (pw:ByteArray) {e:Int} (h:aj w0 [] w gd ps m N) (hd:m.down=false) (hK:cI w0) (hT:iE w0) (hE:ql w0) (he:Mt (dY pw) m=some e):
   Calls Tryz.prog 83 #[plV gd,.string pw] w fun r w'=>r=.returned (.tuple #[.pointer none,bG (some e)])∧Chg [] w w':=by
 obtain ⟨mI,hI⟩:=eI
 apply yd
 obtain ⟨g2,w1,r1,k1⟩:=(St.start w).cz (P:=Tryz.prog) 142 [pV gd]
 have k1:St w [] w1 [.arr g2 142 [pV gd]]:=k1
 refine ⟨g2,w1,r1,_,k1.ldA (i:=0) (l:=[pV gd]) rfl (plA _) (plS _) rfl,(yQ dL (h.same k1.chg)).mono ?_⟩
 rintro e1 w2 ⟨rfl,c2⟩
 have k2:=k1.same c2
 have h2:=h.same k2.chg
 unfold Mt at he
 refine ⟨_,rfl,fun hno=>?_,fun hyes=>?_⟩
 · have hno:yF m dL=false:=by simpa using hno
   rw [hno] at he
   refine ⟨_,k2.ldA (i:=0) (l:=[pV gd]) rfl (plA _) (plS _) rfl,(lX h2 hT hE).mono ?_⟩
   rintro e1 w3 ⟨rfl,c3⟩
   refine ⟨_,rfl,fun hg=>?_,fun hg=>?_⟩
   · rw [hg] at he
     obtain rfl:(10:Int)=e:=by simpa using he
     exact ⟨rfl,k2.chg.trans c3⟩
   · rw [hg] at he
     obtain rfl:(21:Int)=e:=by simpa using he
     exact ⟨rfl,k2.chg.trans c3⟩
 · have hyes:yF m dL=true:=by simpa using hyes
   rw [hyes] at he
   have he:ng (dY pw) (oW m dL)=some e:=he
   have hf:bW m dL=none:=Iy h.wf hd (by unfold yF at hyes;rwa [List.contains_iff_mem] at hyes)
   refine ⟨_,_,k2.ldL (i:=0) (o:=0) (l:=[pV gd]) rfl (pdA _) rfl rfl,(G5 dL h2).mono ?_⟩
   rintro e1 w4 ⟨fa,fn,fc,rfl,f4⟩
   have k4:=f4.add k2
   rw [hf]
   refine ⟨_,_,_,_,rfl,_,az hI none _ _,fun h=>(by cases h),fun _=>(Cy pw fa fn fc _ w4 (hK.au (h.chg.trans k4.chg)) f4.rdB).mono ?_⟩
   rintro e1 w5 ⟨rfl,c5⟩
   obtain ⟨g8,w6,r6,k6⟩:=(k4.same c5).aD eD
   have hul:=Ca (dY pw) (oW m dL)
   obtain ⟨w7,r7,k7⟩:=k6.stA (i:=2) (v:=bv (lg (dY pw) (oW m dL))) rfl (cL _) (by simp) (by simp [hul]) (aO _)
   refine ⟨_,_,rfl,g8,w6,r6,w7,r7,_,az hI _ _ _,fun _=>?_,fun h=>?_⟩
   · rw [he];exact ⟨rfl,k7.chg⟩
   · rw [he] at h;cases h

end

end Go.Proofs.YtpmhjnhgpplmnaaGreatDoor
end

section
namespace Go.Proofs.YtpmhjnhgpplmnaaGreatDoor
open Go Sx
set_option maxRecDepth 8000

structure Calm (m:ah):Prop where
 d:m.down=false
 a:m.arm=none
 f:m.bN=[]
structure IE (m m':ah):Prop where
 size:m'.size=m.size
 files:m'.files=m.files
 now:m'.now=m.now
 syn:m'.syn=m.syn
 chs:m'.chs=m.chs
structure Eff (m:ah) (f:ah→ah) (r:ah×Option Int):Prop where
 ok:r.2=none→IE (f m) r.1∧r.1.down=false
 no:r.2≠none→IE m r.1
 er:r.2=none∨(r.2=some 2∧r.1.down=false)∨(r.2=some 1∧r.1.down=true)
 calm:Calm m→r.2=none∧Calm r.1∧r.1.steps=m.steps+1
def AO (f:ah→ah):Prop:=∀(m:ah) (s:Nat) (d:Bool) (a:Option Nat) (l:List Nat),f { m with steps:=s,down:=d,arm:=a,bN:=l } = { f m with steps:=s,down:=d,arm:=a,bN:=l }
theorem jM (m:ah) (f:ah→ah) (hd:m.down=false) (hf:AO f):Eff m f (aT m f):=by
 by_cases ha:m.arm=some 0
 · have e:aT m f=({ m with down:=true },some 1):=by unfold aT bu;rw [if_pos ha]
   rw [e]
   exact ⟨fun h=>by simp at h,fun _=>⟨rfl,rfl,rfl,rfl,rfl⟩,.inr (.inr ⟨rfl,rfl⟩),fun h=>by rw [h.a] at ha;cases ha⟩
 cases hl:m.bN with
 | nil=>
   have e:aT m f=({ f m with steps:=m.steps+1,down:=m.down,arm:=m.arm.map (· -1),bN:=m.bN },none):=by
     unfold aT bu
     rw [if_neg ha,hl]
     have:=hf m (m.steps+1) m.down (m.arm.map (· -1)) m.bN
     rw [hl] at this
     exact Prod.ext this rfl
   rw [e]
   exact ⟨fun _=>⟨⟨rfl,rfl,rfl,rfl,rfl⟩,hd⟩,fun h=>absurd rfl h,.inl rfl,fun h=>⟨rfl,⟨hd,by show m.arm.map _=none;rw [h.a];rfl,h.f⟩,rfl⟩⟩
 | cons k r=>
   cases k with
   | zero=>
     have e:aT m f=({ m with steps:=m.steps+1,arm:=m.arm.map (· -1),bN:=r },some 2):=by
       unfold aT bu
       rw [if_neg ha,hl]
     rw [e]
     exact ⟨fun h=>by simp at h,fun _=>⟨rfl,rfl,rfl,rfl,rfl⟩,.inr (.inl ⟨rfl,hd⟩),fun h=>by have:=h.f;rw [hl] at this;cases this⟩
   | succ k=>
     have e:aT m f=({ f m with steps:=m.steps+1,down:=m.down,arm:=m.arm.map (· -1),bN:=k::r },none):=by
       unfold aT bu
       rw [if_neg ha,hl]
       exact Prod.ext (hf m (m.steps+1) m.down (m.arm.map (· -1)) (k::r)) rfl
     rw [e]
     exact ⟨fun _=>⟨⟨rfl,rfl,rfl,rfl,rfl⟩,hd⟩,fun h=>absurd rfl h,.inl rfl,fun h=>by have:=h.f;rw [hl] at this;cases this⟩

section
variable {α:Type} (kid:α→List UInt8) (f:α→Nat)
theorem wC (p q:α→Bool) (hpq:∀x,p x=true→q x=true→False):∀S:List α,((S.filter p).map f).sum+((S.filter q).map f).sum≤(S.map f).sum
 | []=>by simp
 | x::S=>by
   have ih:=wC p q hpq S
   simp only [List.filter_cons]
   cases hp:p x<;>cases hq:q x<;>simp<;>try omega
   exact (hpq x hp hq).elim
theorem CP (S:List α) (r:α):((ep kid S r).map f).sum≤f r+(S.map f).sum:=by
 have:=wC f (fun s=>lexLt (kid s) (kid r)) (fun s=>lexLt (kid r) (kid s)) (fun x h1 h2=>by
   have:=lex_trans _ _ _ h1 h2
   rw [lex_irrefl] at this;cases this) S
 unfold ep
 rw [List.map_append,List.sum_append,List.map_cons,List.sum_cons]
 omega
theorem I5 (S:List α) (id:List UInt8):((eO kid S id).map f).sum≤(S.map f).sum:=by
 have:=wC f (fun s=> !decide (kid s=id)) (fun s=>decide (kid s=id)) (fun x h1 h2=>by simp at h1 h2;exact h1 h2) S
 unfold eO
 omega
theorem CJ {S:List α} {id:List UInt8} {y:α} (h:dw kid S id=some y):((eO kid S id).map f).sum+f y≤(S.map f).sum:=by
 have:=wC f (fun s=> !decide (kid s=id)) (fun s=>decide (kid s=id)) (fun x h1 h2=>by simp at h1 h2;exact h1 h2) S
 have hy:y∈S.filter fun s=>decide (kid s=id):=by
   obtain ⟨h1,h2⟩:=eB h
   exact List.mem_filter.2 ⟨h1,by simpa using h2⟩
 have h3:f y≤((S.filter fun s=>decide (kid s=id)).map f).sum:=tK (List.mem_map_of_mem hy)
 unfold eO
 omega
end

theorem AO.iO (c:ChM):AO fun m=>iO m c:=fun _ _ _ _ _=>rfl
theorem Em (n:Nm):AO fun m=>gZ m n:=fun _ _ _ _ _=>rfl
theorem DI (i:Nat) (ps:List (List UInt8)):AO fun m=>bK m i ps:=fun _ _ _ _ _=>rfl
theorem HH (i:Nat):AO fun m=>jW m i:=fun _ _ _ _ _=>rfl
theorem BH:AO fN:=fun _ _ _ _ _=>rfl

end Go.Proofs.YtpmhjnhgpplmnaaGreatDoor
end

section
namespace Go.Proofs.YtpmhjnhgpplmnaaGreatDoor
open Go Sx
set_option maxRecDepth 8000

def vW (fs:List b8) (d:Dir):Nat:=(d.map fun e=>(fileAt fs e.file).data.length).sum
structure SV (P W:Dir→Prop) (Z:List (Nat×List UInt8)) (u c:Nat) (s:Int) (m:ah):Prop where
 wf:WFD m
 frz:∀z∈Z,z.1<m.files.length∧fileAt m.files z.1=⟨z.2,z.2.length⟩
 inv:∀k,P (replay m.syn (m.chs.take k))
 cur:W m.now
 use:∀k,vW m.files (replay m.syn (m.chs.take k))≤u∧(replay m.syn (m.chs.take k)).length≤c
 sz:m.size=s

section
variable {P P' W W':Dir→Prop} {Z Z':List (Nat×List UInt8)} {u c u' c':Nat} {s:Int} {m m':ah} {n:Nm} {e:Ent}

theorem WFD.like (h:WFD m) (l:IE m m'):WFD m':=⟨by rw [l.now,l.syn,l.chs];exact h.now,by rw [l.syn,l.chs,l.files];exact h.tI,by rw [l.chs,l.files];exact h.made,by rw [l.files];exact h.syn,by rw [l.size];exact h.size⟩
theorem SV.like (h:SV P W Z u c s m) (l:IE m m'):SV P W Z u c s m':=
 ⟨h.wf.like l,by rw [l.files];exact h.frz,by rw [l.syn,l.chs];exact h.inv,by rw [l.now];exact h.cur,by rw [l.files,l.syn,l.chs];exact h.use,l.size.trans h.sz⟩
theorem SV.now (h:SV P W Z u c s m):P m.now:=by
 have:=h.inv m.chs.length
 rw [List.take_length,←h.wf.now] at this
 exact this
theorem SV.used (h:SV P W Z u c s m):kC m≤u:=by
 have:=(h.use m.chs.length).1
 rw [List.take_length,←h.wf.now] at this
 exact this
theorem SV.cnt (h:SV P W Z u c s m):m.now.length≤c:=by
 have:=(h.use m.chs.length).2
 rw [List.take_length,←h.wf.now] at this
 exact this
theorem SV.imp (h:SV P W Z u c s m) (hp:∀d,P d→P' d) (hw:∀d,W d→W' d) (hu:u≤u') (hc:c≤c'):SV P' W' Z u' c' s m:=⟨h.wf,h.frz,fun k=>hp _ (h.inv k),hw _ h.cur,fun k=>⟨Nat.le_trans (h.use k).1 hu,Nat.le_trans (h.use k).2 hc⟩,h.sz⟩
theorem SV.MQ (h:SV P W Z u c s m) {i:Nat} {b:List UInt8} (hi:i<m.files.length) (hb:fileAt m.files i=⟨b,b.length⟩):SV P W ((i,b)::Z) u c s m:=
 ⟨h.wf,fun z hz=>by
   rcases List.mem_cons.1 hz with rfl | hz
   · exact ⟨hi,hb⟩
   · exact h.frz z hz,h.inv,h.cur,h.use,h.sz⟩
theorem mA (h:WFD m) (hi:∀k,P (replay m.syn (m.chs.take k))) {x:ChM} (hx:P (mkD m.now x)) (k:Nat):P (replay m.syn ((m.chs++ [x]).take k)):=by
 by_cases hk:k≤m.chs.length
 · rw [List.take_append_of_le_length hk];exact hi k
 · rw [List.take_of_length_le (by simp;omega),nN,←h.now];exact hx
theorem Co {fs:List b8} {f:b8} {i:Nat} (hi:i<fs.length):fileAt (fs++ [f]) i=fileAt fs i:=by unfold fileAt List.getD;rw [List.getElem?_append_left hi]
theorem Ah (fs:List b8) (f:b8):fileAt (fs++ [f]) fs.length=f:=by unfold fileAt List.getD;rw [List.getElem?_append_right (Nat.le_refl _)];simp
theorem iW (h:WFD m) (hf:findD m.now n=some e):e∈m.now∧e.name=n∧e.file<m.files.length∧cE n=true:=by
 obtain ⟨h1,h2⟩:=eB hf
 have:=h.dV.ent e h1
 exact ⟨h1,h2,this.1,by rw [←h2];exact this.2⟩

theorem SV.create (h:SV P W Z u c s m) (hn:cE n=true) (hf:findD m.now n=none) (hc:c<4096) (hP:P (ep Ent.name m.now ⟨n,m.files.length⟩)) (hW:W' (ep Ent.name m.now ⟨n,m.files.length⟩)):
   SV P W' Z u (c+1) s (gZ m n)∧findD (gZ m n).now n=some ⟨n,m.files.length⟩∧fileAt (gZ m n).files m.files.length=iJ:=by
 have hok:=h.wf.dV
 have hl:=h.cnt
 have hins:fA (m.files++ [iJ]).length (ep Ent.name m.now ⟨n,m.files.length⟩):=
   (hok.mono (by simp)).ins (by simp) hn (.inl (by omega)) fun e he _=>by have:=(hok.ent e he).1;omega
 have old:∀k,vW (m.files++ [iJ]) (replay m.syn (m.chs.take k))=vW m.files (replay m.syn (m.chs.take k)):=fun k=>by
   unfold vW
   rw [List.map_congr_left fun e he=>by rw [Co ((h.wf.tI k).ent e he).1]]
 refine ⟨⟨?_,fun z hz=>?_,fun k=>mA (x:=gh m n) h.wf h.inv hP k,hW,?_,h.sz⟩,?_,Ah _ _⟩
 · refine h.wf.snoc (c:=gh m n) (fs:=m.files++ [iJ]) (by simp) (fun f hf=>?_) (fun i hi=>?_) hins
   · rcases List.mem_append.1 hf with hf | hf
     · exact h.wf.syn f hf
     · simp at hf;rw [hf];exact ⟨Nat.le_refl _,by simp [iJ]⟩
   · have:i=m.files.length:=by simpa [gh] using hi.symm
     simp [this]
 · obtain ⟨h1,h2⟩:=h.frz z hz
   refine ⟨?_,?_⟩
   · show z.1<(m.files++ [iJ]).length
     simp;omega
   · show fileAt (m.files++ [iJ]) z.1=_
     rw [Co h1];exact h2
 · refine fun k=>mA (x:=gh m n) (P:=fun d=>vW (m.files++ [iJ]) d≤u∧d.length≤c+1) h.wf (fun k=>⟨by rw [old];exact (h.use k).1,by have:=(h.use k).2;omega⟩) ⟨?_,?_⟩ k
   · show vW (m.files++ [iJ]) (ep Ent.name m.now ⟨n,m.files.length⟩)≤u
     have h1:=CP Ent.name (fun e=>(fileAt (m.files++ [iJ]) e.file).data.length) m.now ⟨n,m.files.length⟩
     have h2:=old m.chs.length
     have h3:=(h.use m.chs.length).1
     rw [List.take_length,←h.wf.now] at h2 h3
     unfold vW at h2 h3 ⊢
     rw [h2,Ah] at h1
     simp [iJ] at h1 ⊢
     omega
   · exact Nat.le_trans (xS (kid:=Ent.name) m.now ⟨n,m.files.length⟩) (by omega)
 · show dw Ent.name (ep Ent.name m.now ⟨n,m.files.length⟩) n=_
   rw [gF hok.asc];simp

theorem KQ (fs:List b8) (i x:Nat):∀ {d:Dir},(d.Pairwise fun a b=>a.file≠b.file)→(d.map fun e=>if e.file=i then (fileAt fs e.file).data.length+x else (fileAt fs e.file).data.length).sum≤(d.map fun e=>(fileAt fs e.file).data.length).sum+x
 | [],_=>by simp
 | e::d,hp=>by
   obtain ⟨h1,h2⟩:=List.pairwise_cons.1 hp
   simp only [List.map_cons,List.sum_cons]
   by_cases he:e.file=i
   · have:(d.map fun e=>if e.file=i then (fileAt fs e.file).data.length+x else (fileAt fs e.file).data.length)=d.map fun e=>(fileAt fs e.file).data.length:=
       List.map_congr_left fun y hy=>by rw [if_neg (fun h=>h1 y hy (by rw [he,h]))]
     rw [this,if_pos he];omega
   · have:=KQ fs i x h2
     rw [if_neg he];omega

theorem SV.append (h:SV P W Z u c s m) (hf:findD m.now n=some e) (hz:∀z∈Z,z.1≠e.file) {ps:List (List UInt8)} (hb:(fileAt m.files e.file).data.length+ps.flatten.length≤1099511627776):
   SV P W Z (u+ps.flatten.length) c s (bK m e.file ps)∧fileAt (bK m e.file ps).files e.file=⟨(fileAt m.files e.file).data++ps.flatten,(fileAt m.files e.file).syn⟩:=by
 obtain ⟨_,_,hi,_⟩:=iW h.wf hf
 have hat:fileAt (bK m e.file ps).files e.file=⟨(fileAt m.files e.file).data++ps.flatten,(fileAt m.files e.file).syn⟩:=by rw [dU,jk hi]
 refine ⟨⟨?_,fun z hz'=>?_,h.inv,h.cur,?_,h.sz⟩,hat⟩
 · refine h.wf.files (lZ _ _ _) ?_
   have:=tW h.wf.syn e.file
   exact yI (m:=m) h.wf.syn (g:=⟨(fileAt m.files e.file).data++ps.flatten,(fileAt m.files e.file).syn⟩) ⟨by simp only [List.length_append];omega,by simp only [List.length_append];omega⟩
 · obtain ⟨h1,h2⟩:=h.frz z hz'
   refine ⟨by rw [dU,lZ];exact h1,?_⟩
   rw [dU,ir (fun hh=>hz z hz' hh.symm)];exact h2
 · intro k
   refine ⟨?_,(h.use k).2⟩
   have h3:=(h.use k).1
   have h4:=KQ m.files e.file ps.flatten.length (h.wf.tI k).inj
   unfold vW at h3 ⊢
   have h5:((replay m.syn (m.chs.take k)).map fun x=>(fileAt (bK m e.file ps).files x.file).data.length)=(replay m.syn (m.chs.take k)).map fun x=>if x.file=e.file then (fileAt m.files x.file).data.length+ps.flatten.length else (fileAt m.files x.file).data.length:=
     List.map_congr_left fun x _=>by
       by_cases hx:x.file=e.file
       · rw [if_pos hx,hx,hat];simp
       · rw [if_neg hx,dU,ir (fun hh=>hx hh.symm)]
   show ((replay m.syn (m.chs.take k)).map fun x=>(fileAt (bK m e.file ps).files x.file).data.length).sum≤_
   rw [h5];omega

theorem SV.sync (h:SV P W Z u c s m) (hf:findD m.now n=some e):
   SV P W Z u c s (jW m e.file)∧fileAt (jW m e.file).files e.file=⟨(fileAt m.files e.file).data,(fileAt m.files e.file).data.length⟩:=by
 obtain ⟨_,_,hi,_⟩:=iW h.wf hf
 have hfs:(jW m e.file).files=gw m.files e.file fun f=>⟨f.data,f.data.length⟩:=rfl
 have hdat:∀i,(fileAt (jW m e.file).files i).data=(fileAt m.files i).data:=fun i=>by
   by_cases hx:e.file=i
   · rw [hfs,←hx,jk hi]
   · rw [hfs,ir hx]
 refine ⟨⟨?_,fun z hz=>?_,h.inv,h.cur,?_,h.sz⟩,by rw [hfs,jk hi]⟩
 · refine h.wf.files (lZ _ _ _) ?_
   have:=tW h.wf.syn e.file
   exact yI (m:=m) h.wf.syn (g:=⟨(fileAt m.files e.file).data,(fileAt m.files e.file).data.length⟩) ⟨Nat.le_refl _,this.2⟩
 · obtain ⟨h1,h2⟩:=h.frz z hz
   refine ⟨by rw [hfs,lZ];exact h1,?_⟩
   by_cases hx:e.file=z.1
   · rw [hfs,←hx,jk hi,hx,h2]
   · rw [hfs,ir hx,h2]
 · intro k
   refine ⟨?_,(h.use k).2⟩
   have h3:=(h.use k).1
   unfold vW at h3 ⊢
   have h5:((replay m.syn (m.chs.take k)).map fun x=>(fileAt (jW m e.file).files x.file).data.length)=(replay m.syn (m.chs.take k)).map fun x=>(fileAt m.files x.file).data.length:=List.map_congr_left fun x _=>by rw [hdat]
   show ((replay m.syn (m.chs.take k)).map fun x=>(fileAt (jW m e.file).files x.file).data.length).sum≤_
   rw [h5];exact h3

theorem SV.BW (h:SV P W Z u c s m) (hP:P' m.now):SV P' W Z u c s (fN m):=by
 have e:∀k,replay (fN m).syn ((fN m).chs.take k)=m.now:=fun k=>by
   show replay m.now ([].take k)=_
   rw [List.take_nil];rfl
 exact ⟨⟨rfl,fun k=>by rw [e];exact h.wf.dV,fun c hc=>(by cases hc),h.wf.syn,h.wf.size⟩,h.frz,fun k=>(by rw [e];exact hP),h.cur,fun k=>(by rw [e];exact ⟨h.used,h.cnt⟩),h.sz⟩

theorem GC (hf:findD m.now n=some e):mkD m.now ⟨none,n,[]⟩=eO Ent.name m.now n:=by
 unfold mkD;rw [show findD m.now (⟨none,n,[]⟩:ChM).fr=some e from hf];rfl
theorem Li {b:Nm} (hf:findD m.now n=some e) (hb:b≠ []):mkD m.now ⟨none,n,b⟩=ep Ent.name (eO Ent.name m.now n) ⟨b,e.file⟩:=by
 unfold mkD;rw [show findD m.now (⟨none,n,b⟩:ChM).fr=some e from hf];exact if_neg hb
theorem SV.remove (h:SV P W Z u c s m) (hf:findD m.now n=some e) (hP:P' (eO Ent.name m.now n)) (hW:W' (eO Ent.name m.now n)) (hi:∀d,P d→P' d):SV P' W' Z u c s (iO m ⟨none,n,[]⟩):=by
 have hd:=GC hf
 have h0:SV P' W Z u c s m:=h.imp hi (fun _ h=>h) (Nat.le_refl _) (Nat.le_refl _)
 refine ⟨?_,h.frz,fun k=>mA h.wf h0.inv (by rw [hd];exact hP) k,by show W' (mkD m.now ⟨none,n,[]⟩);rw [hd];exact hW,fun k=>mA (P:=fun d=>vW m.files d≤u∧d.length≤c) h.wf h.use ⟨?_,?_⟩ k,h.sz⟩
 · exact h.wf.snoc (c:=⟨none,n,[]⟩) (fs:=m.files) (Nat.le_refl _) h.wf.syn (fun i hi=>by cases hi) (by rw [hd];exact h.wf.dV.del n)
 · rw [hd]
   exact Nat.le_trans (I5 Ent.name _ m.now n) h.used
 · rw [hd]
   exact Nat.le_trans (B9 _ _) h.cnt
theorem SV.rename (h:SV P W Z u c s m) {b:Nm} (hf:findD m.now n=some e) (hb:cE b=true) (hP:P' (ep Ent.name (eO Ent.name m.now n) ⟨b,e.file⟩)) (hW:W' (ep Ent.name (eO Ent.name m.now n) ⟨b,e.file⟩)) (hi:∀d,P d→P' d):SV P' W' Z u c s (iO m ⟨none,n,b⟩)∧findD (iO m ⟨none,n,b⟩).now b=some ⟨b,e.file⟩:=by
 have hb0:b≠ []:=fun h=>by rw [h] at hb;cases hb
 have hd:=Li (b:=b) hf hb0
 obtain ⟨h1,h2,h3,_⟩:=iW h.wf hf
 have hok:=h.wf.dV
 have h0:SV P' W Z u c s m:=h.imp hi (fun _ h=>h) (Nat.le_refl _) (Nat.le_refl _)
 have hlen:=vw (kid:=Ent.name) hf
 have hok2:fA m.files.length (ep Ent.name (eO Ent.name m.now n) ⟨b,e.file⟩):=
   (hok.del n).ins h3 hb (.inl (by have:=hok.len;omega)) fun x hx _ hxe=>by
     obtain ⟨hx1,hx2⟩:=l9.1 hx
     exact hx2 (by rw [hok.inj' hx1 h1 hxe];exact h2)
 refine ⟨⟨?_,h.frz,fun k=>mA h.wf h0.inv (by rw [hd];exact hP) k,by show W' (mkD m.now ⟨none,n,b⟩);rw [hd];exact hW,fun k=>mA (P:=fun d=>vW m.files d≤u∧d.length≤c) h.wf h.use ⟨?_,?_⟩ k,h.sz⟩,?_⟩
 · exact h.wf.snoc (c:=⟨none,n,b⟩) (fs:=m.files) (Nat.le_refl _) h.wf.syn (fun i hi=>by cases hi) (by rw [hd];exact hok2)
 · rw [hd]
   have a1:=CP Ent.name (fun e=>(fileAt m.files e.file).data.length) (eO Ent.name m.now n) ⟨b,e.file⟩
   have a2:=CJ Ent.name (fun e=>(fileAt m.files e.file).data.length) hf
   have a3:=h.used
   unfold kC at a3
   unfold vW
   simp only at a1
   omega
 · rw [hd]
   have:=xS (kid:=Ent.name) (eO Ent.name m.now n) ⟨b,e.file⟩
   have:=h.cnt
   omega
 · show findD (mkD m.now ⟨none,n,b⟩) b=_
   rw [hd]
   show dw Ent.name _ b=_
   rw [gF (oN hok.asc n)];simp
end

section
variable {m:ah} {n:Nm} {e:Ent}
theorem xW {ns:List Nm} (hd:m.down=false) (hn:ns.all cE=true):fI m ns=none:=by unfold fI;rw [hd,hn];rfl
theorem oc (hd:m.down=false) (hw:WFD m) (hf:findD m.now n=some e):bW m n=none∧cA m n=e.file:=by
 obtain ⟨_,_,_,hg⟩:=iW hw hf
 refine ⟨?_,?_⟩
 · unfold bW;rw [hd,hg,hf];rfl
 · unfold cA;rw [hf];rfl
theorem EF (hd:m.down=false) (hn:cE n=true) (hf:findD m.now n=none) (hc:m.now.length<4096):Eff m (fun m=>gZ m n) (aN m n):=by
 have:aN m n=aT m fun m=>gZ m n:=by
   unfold aN
   rw [xW hd (by simp [hn]),hf]
   simp only [Option.isSome_none,Bool.false_eq_true,if_false]
   rw [if_neg (by omega)]
 rw [this]
 exact jM m _ hd (Em n)
theorem Gi:∀ {ps:List (List UInt8)} {r:Int},(ps.flatten.length:Int)≤r→fits r ps=true
 | [],_,_=>rfl
 | p::ps,r,h=>by
   simp only [List.flatten_cons,List.length_append] at h
   unfold fits
   rw [Gi (ps:=ps) (by omega)]
   simp;omega
theorem EH (hd:m.down=false) (hw:WFD m) (hf:findD m.now n=some e) {ps:List (List UInt8)} (hs:(kC m:Int)+ps.flatten.length≤m.size):Eff m (fun m=>bK m e.file ps) (aP m n ps):=by
 obtain ⟨h1,h2⟩:=oc hd hw hf
 have:aP m n ps=aT m fun m=>bK m e.file ps:=by
   unfold aP
   rw [h1,h2,Gi (by omega)]
   rfl
 rw [this]
 exact jM m _ hd (DI _ ps)
theorem I7 (hd:m.down=false) (hw:WFD m) (hf:findD m.now n=some e):Eff m (fun m=>jW m e.file) (cW m n):=by
 obtain ⟨h1,h2⟩:=oc hd hw hf
 have:cW m n=aT m fun m=>jW m e.file:=by unfold cW;rw [h1,h2]
 rw [this]
 exact jM m _ hd (HH _)
theorem oI (hd:m.down=false):Eff m fN (aL m):=by
 have:aL m=aT m fN:=by unfold aL;rw [xW hd rfl]
 rw [this]
 exact jM m _ hd BH
theorem Fo {b:Nm} (hd:m.down=false) (hw:WFD m) (hf:findD m.now n=some e) (hb:cE b=true):Eff m (fun m=>iO m ⟨none,n,b⟩) (dZ m n b):=by
 obtain ⟨h1,_⟩:=oc hd hw hf
 obtain ⟨_,_,_,hg⟩:=iW hw hf
 have:dZ m n b=aT m fun m=>iO m ⟨none,n,b⟩:=by unfold dZ;rw [xW hd (by simp [hg,hb]),h1]
 rw [this]
 exact jM m _ hd (AO.iO _)
theorem yh (hd:m.down=false) (hw:WFD m) (hf:findD m.now n=some e):Eff m (fun m=>iO m ⟨none,n,[]⟩) (aM m n):=by
 obtain ⟨h1,_⟩:=oc hd hw hf
 have:aM m n=aT m fun m=>iO m ⟨none,n,[]⟩:=by unfold aM;rw [h1]
 rw [this]
 exact jM m _ hd (AO.iO _)
end

end Go.Proofs.YtpmhjnhgpplmnaaGreatDoor
end

section
namespace Go.Proofs.YtpmhjnhgpplmnaaGreatDoor
open Go Sx
set_option maxRecDepth 8000

structure Hr (k:Nat) (m:ah) (r:ah×Option Int) (Q E:ah→Prop):Prop where
 ok:r.2=none→Q r.1∧r.1.down=false
 no:r.2≠none→E r.1
 er:r.2=none∨(r.2=some 2∧r.1.down=false)∨(r.2=some 1∧r.1.down=true)
 calm:Calm m→r.2=none∧Calm r.1∧r.1.steps=m.steps+k
section
variable {k j:Nat} {m:ah} {r:ah×Option Int} {Q Q' E E':ah→Prop}
theorem Eff.hr {f:ah→ah} (h:Eff m f r) (hq:∀m',IE (f m) m'→Q m') (he:∀m',IE m m'→E m'):Hr 1 m r Q E:=
 ⟨fun hn=>⟨hq _ (h.ok hn).1,(h.ok hn).2⟩,fun hn=>he _ (h.no hn),h.er,h.calm⟩
theorem Hr.imp (h:Hr k m r Q E) (hq:∀m',Q m'→Q' m') (he:∀m',E m'→E' m'):Hr k m r Q' E':=
 ⟨fun hn=>⟨hq _ (h.ok hn).1,(h.ok hn).2⟩,fun hn=>he _ (h.no hn),h.er,h.calm⟩
theorem Hr.then {f:ah→ah×Option Int} (h:Hr k m r Q E) (hf:∀m',Q m'→m'.down=false→Hr j m' (f m') Q' E):Hr (k+j) m (aR r f) Q' E:=by
 cases hr:r.2 with
 | some e=>
   have e1:aR r f=(r.1,some e):=by unfold aR;rw [hr]
   rw [e1]
   exact ⟨fun h=>(by cases h),fun _=>h.no (by rw [hr];simp),by have:=h.er;rw [hr] at this;exact this,fun hc=>by have:=(h.calm hc).1;rw [hr] at this;cases this⟩
 | none=>
   have e1:aR r f=f r.1:=by unfold aR;rw [hr]
   rw [e1]
   obtain ⟨q,d⟩:=h.ok hr
   have h2:=hf _ q d
   exact ⟨h2.ok,h2.no,h2.er,fun hc=>by
     obtain ⟨_,c1,s1⟩:=h.calm hc
     obtain ⟨a,b,s2⟩:=h2.calm c1
     exact ⟨a,b,by omega⟩⟩
theorem Hr.nil (hd:m.down=false) (hq:Q m):Hr 0 m (m,none) Q E:=⟨fun _=>⟨hq,hd⟩,fun h=>absurd rfl h,.inl rfl,fun h=>⟨rfl,h,rfl⟩⟩
end

theorem Be (m:ah) (n:Nm) (p:List UInt8) (ps:List (List UInt8)):bC m n (p::ps)=aR (aP m n [p]) fun m=>bC m n ps:=by
 rw [bC];unfold aR;cases (aP m n [p]).2<;>rfl
theorem save_eq (m:ah) (n:Nm) (ps:List (List UInt8)):fS m n ps=aR (aN m n) fun m=>aR (bC m n ps) fun m=>cW m n:=by
 unfold fS aR
 cases (aN m n).2 with
 | some e=>rfl
 | none=>simp only;cases (bC (aN m n).1 n ps).2<;>rfl

section
variable {P P' W W':Dir→Prop} {Z Z':List (Nat×List UInt8)} {u c:Nat} {s:Int} {m:ah} {n:Nm}

theorem u0 {e:Ent} {b:List UInt8} {y:Nat} {ps:List (List UInt8)} (h:SV P W Z u c s m) (hd:m.down=false) (hf:findD m.now n=some e) (hb:fileAt m.files e.file=⟨b,y⟩) (hz:∀z∈Z,z.1≠e.file) (hs:(u:Int)+ps.flatten.length≤s):
   Hr 1 m (aP m n ps) (fun m'=>SV P W Z (u+ps.flatten.length) c s m'∧findD m'.now n=some e∧fileAt m'.files e.file=⟨b++ps.flatten,y⟩) (SV P W Z (u+ps.flatten.length) c s):=by
 have hu:=h.used
 have hsz:=h.sz
 have hw:=h.wf.size
 have hl:b.length≤1099511627776∧b.length≤kC m:=by
   have h1:=tW h.wf.syn e.file
   rw [hb] at h1
   obtain ⟨he,_⟩:=iW h.wf hf
   have:(fileAt m.files e.file).data.length≤kC m:=tK (List.mem_map_of_mem (f:=fun e=>(fileAt m.files e.file).data.length) he)
   rw [hb] at this
   exact ⟨h1.2,this⟩
 have h0:SV P W Z (u+ps.flatten.length) c s m:=h.imp (fun _ h=>h) (fun _ h=>h) (by omega) (Nat.le_refl _)
 refine (EH hd h.wf hf (ps:=ps) (by omega)).hr (fun m' l=>?_) (fun m' l=>h0.like l)
 obtain ⟨h1,h2⟩:=h.append hf hz (ps:=ps) (by rw [hb];simp only;omega)
 refine ⟨h1.like l,by rw [l.now];exact hf,by rw [l.files,h2,hb]⟩
theorem yW {e:Ent} :∀(ps:List (List UInt8)) {u:Nat} {m:ah} {b:List UInt8} {y:Nat},SV P W Z u c s m→m.down=false→findD m.now n=some e→fileAt m.files e.file=⟨b,y⟩→(∀z∈Z,z.1≠e.file)→(u:Int)+ps.flatten.length≤s→
   Hr ps.length m (bC m n ps) (fun m'=>SV P W Z (u+ps.flatten.length) c s m'∧findD m'.now n=some e∧fileAt m'.files e.file=⟨b++ps.flatten,y⟩) (SV P W Z (u+ps.flatten.length) c s)
 | [],u,m,b,y,h,hd,hf,hb,_,_=>by
   refine Hr.nil hd ⟨by simpa using h,hf,by simpa using hb⟩
 | p::ps,u,m,b,y,h,hd,hf,hb,hz,hs=>by
   have e1:(p::ps).flatten.length=p.length+ps.flatten.length:=by simp
   have e2: [p].flatten=p:=by simp
   rw [e1] at hs ⊢
   rw [Be,List.length_cons,Nat.add_comm ps.length 1]
   have h1:=u0 (ps:=[p]) h hd hf hb hz (by rw [e2];omega)
   rw [e2] at h1
   have h2:=h1.imp (Q':=fun m'=>SV P W Z (u+p.length) c s m'∧findD m'.now n=some e∧fileAt m'.files e.file=⟨b++p,y⟩) (E':=SV P W Z (u+(p.length+ps.flatten.length)) c s) (fun _ h=>h) (fun _ h=>h.imp (fun _ h=>h) (fun _ h=>h) (by omega) (Nat.le_refl _))
   refine Hr.then h2 fun m' ⟨q1,q2,q3⟩ hd'=>?_
   have:=yW ps q1 hd' q2 q3 hz (by omega)
   rw [Nat.add_assoc] at this
   refine this.imp (fun _ ⟨a,b,c⟩=>⟨a,b,by rw [c];simp⟩) (fun _ h=>h)
theorem BV {e:Ent} {b:List UInt8} {y:Nat} (h:SV P W Z u c s m) (hd:m.down=false) (hf:findD m.now n=some e) (hb:fileAt m.files e.file=⟨b,y⟩):
   Hr 1 m (cW m n) (fun m'=>SV P W Z u c s m'∧findD m'.now n=some e∧fileAt m'.files e.file=⟨b,b.length⟩) (SV P W Z u c s):=by
 refine (I7 hd h.wf hf).hr (fun m' l=>?_) (fun m' l=>h.like l)
 obtain ⟨h1,h2⟩:=h.sync hf
 exact ⟨h1.like l,by rw [l.now];exact hf,by rw [l.files,h2,hb]⟩
theorem ud (h:SV P W Z u c s m) (hd:m.down=false) (hn:cE n=true) (hf:findD m.now n=none) (hc:c<4096) (hP:P (ep Ent.name m.now ⟨n,m.files.length⟩)) (hW:W' (ep Ent.name m.now ⟨n,m.files.length⟩)):
   Hr 1 m (aN m n) (fun m'=>SV P W' Z u (c+1) s m'∧findD m'.now n=some ⟨n,m.files.length⟩∧fileAt m'.files m.files.length=⟨[],0⟩) (SV P W Z u c s):=by
 refine (EF hd hn hf (by have:=h.cnt;omega)).hr (fun m' l=>?_) (fun m' l=>h.like l)
 obtain ⟨h1,h2,h3⟩:=h.create hn hf hc hP hW
 exact ⟨h1.like l,by rw [l.now];exact h2,by rw [l.files];exact h3⟩
theorem K4 {ps:List (List UInt8)} (h:SV P W Z u c s m) (hd:m.down=false) (hn:cE n=true) (hf:findD m.now n=none) (hc:c<4096) (hs:(u:Int)+ps.flatten.length≤s) (hP:P (ep Ent.name m.now ⟨n,m.files.length⟩)) (hW:W' (ep Ent.name m.now ⟨n,m.files.length⟩)) (hWW:∀d,W' d→W d):
   Hr (ps.length+2) m (fS m n ps) (fun m'=>SV P W' ((m.files.length,ps.flatten)::Z) (u+ps.flatten.length) (c+1) s m'∧findD m'.now n=some ⟨n,m.files.length⟩) (SV P W Z (u+ps.flatten.length) (c+1) s):=by
 rw [save_eq,show ps.length+2=1+(ps.length+1) by omega]
 have hz:∀z∈Z,z.1≠m.files.length:=fun z hz=>by have:=(h.frz z hz).1;omega
 refine Hr.then ((ud h hd hn hf hc hP hW).imp (fun _ h=>h) (fun _ h=>h.imp (fun _ h=>h) (fun _ h=>h) (by omega) (by omega))) fun m1 ⟨q1,q2,q3⟩ hd1=>?_
 refine Hr.then ((yW ps q1 hd1 q2 q3 hz hs).imp (fun _ h=>h) (fun _ h=>h.imp (fun _ h=>h) hWW (Nat.le_refl _) (Nat.le_refl _))) fun m2 ⟨q1,q2,q3⟩ hd2=>?_
 refine (BV q1 hd2 q2 q3).imp (fun m3 ⟨q1,q2,q3⟩=>⟨q1.MQ (iW q1.wf q2).2.2.1 ?_,q2⟩) (fun _ h=>h.imp (fun _ h=>h) hWW (Nat.le_refl _) (Nat.le_refl _))
 rw [q3,List.nil_append]
end

def VwD (K:List UInt8) (L:List (Nm×Nat)) (g:Int) (Z:List (Nat×List UInt8)) (d:Dir):Prop:=
 (∀t∈L,findD d t.1=some ⟨t.1,t.2⟩)∧∀e∈d,∀x,xq e.name=some x→x≤g∧∃C:bH,C.gen=x∧aI C=true∧gB C∧(e.file,jq K C)∈Z
theorem nY {n:Nm} {x:Int} :xq n=some x↔1≤x∧x≤1099511627776∧aW 99 x=n:=KP (by omega) (by omega)
section
variable {K:List UInt8} {L L':List (Nm×Nat)} {g g':Int} {Z Z':List (Nat×List UInt8)} {d:Dir} {n:Nm} {i:Nat}
theorem VwD.sub (h:VwD K L g Z d) (hl:∀t∈L',t∈L) (hg:g≤g') (hz:∀z∈Z,z∈Z'):VwD K L' g' Z' d:=
 ⟨fun t ht=>h.1 t (hl t ht),fun e he x hx=>by
   obtain ⟨h1,C,h2,h3,h4,h5⟩:=h.2 e he x hx
   exact ⟨by omega,C,h2,h3,h4,hz _ h5⟩⟩
theorem VwD.add (h:VwD K L g Z d) (hf:findD d n=some ⟨n,i⟩):VwD K ((n,i)::L) g Z d:=
 ⟨fun t ht=>by
   rcases List.mem_cons.1 ht with rfl | ht
   · exact hf
   · exact h.1 t ht,h.2⟩
theorem VwD.ins (h:VwD K L g Z d) (ha:gK Ent.name d) (hn:∀t∈L,t.1≠n) (hg:xq n=none) (i:Nat):VwD K L g Z (ep Ent.name d ⟨n,i⟩):=
 ⟨fun t ht=>by
   show dw Ent.name (ep Ent.name d _) t.1=_
   rw [gF ha,if_neg (fun h=>hn t ht h.symm)]
   exact h.1 t ht,fun e he x hx=>by
   rcases kO.1 he with rfl | ⟨he,_⟩
   · rw [hg] at hx;cases hx
   · exact h.2 e he x hx⟩
theorem VwD.del (h:VwD K L g Z d) (hn:∀t∈L,t.1≠n):VwD K L g Z (eO Ent.name d n):=
 ⟨fun t ht=>by
   show dw Ent.name (eO Ent.name d n) t.1=_
   rw [yU,if_neg (fun h=>hn t ht h.symm)]
   exact h.1 t ht,fun e he x hx=>h.2 e (l9.1 he).1 x hx⟩
theorem VwD.up {C:bH} (h:VwD K L g Z d) (ha:gK Ent.name d) (hn:∀t∈L,t.1≠aW 99 C.gen) (hg:g≤C.gen) (hc:aI C=true) (ho:gB C) (hz:(i,jq K C)∈Z):VwD K ((aW 99 C.gen,i)::L) C.gen Z (ep Ent.name d ⟨aW 99 C.gen,i⟩):=
 ⟨fun t ht=>by
   show dw Ent.name (ep Ent.name d _) t.1=_
   rw [gF ha]
   rcases List.mem_cons.1 ht with rfl | ht
   · simp
   · rw [if_neg (fun h=>hn t ht h.symm)]
     exact h.1 t ht,fun e he x hx=>by
   rcases kO.1 he with rfl | ⟨he,_⟩
   · have:=(nY.1 hx).2.2
     have hb:=bh hc
     have h2:xq (aW 99 C.gen)=some C.gen:=nY.2 ⟨hb.1.1,hb.1.2,rfl⟩
     have hx:xq (aW 99 C.gen)=some x:=hx
     rw [h2] at hx
     obtain rfl:C.gen=x:=by simpa using hx
     exact ⟨Int.le_refl _,C,rfl,hc,ho,hz⟩
   · obtain ⟨h1,h2⟩:=h.2 e he x hx
     exact ⟨by omega,h2⟩⟩
theorem VwD.dn (h:VwD K L (g+1) Z d) (hn:∀t∈L,t.1≠aW 99 (g+1)):VwD K L g Z (eO Ent.name d (aW 99 (g+1))):=
 ⟨(h.del hn).1,fun e he x hx=>by
   obtain ⟨h1,h2⟩:=l9.1 he
   obtain ⟨h3,h4⟩:=h.2 e h1 x hx
   refine ⟨?_,h4⟩
   have h5:=(nY.1 hx).2.2
   have:x≠g+1:=fun hh=>h2 (by rw [←h5,hh])
   omega⟩
end

end Go.Proofs.YtpmhjnhgpplmnaaGreatDoor
end

section
namespace Go.Proofs.YtpmhjnhgpplmnaaGreatDoor
open Go Sx
set_option maxRecDepth 8000

structure Cm (k:Nat) (m:ah) (r:ah×Option Int) (Q A B:ah→Prop):Prop where
 ok:r.2=none→Q r.1∧r.1.down=false
 io:r.2=some 2→A r.1∧r.1.down=false
 dn:r.2=some 1→B r.1∧r.1.down=true
 dd:r.2=some 22→B r.1
 er:r.2=none∨r.2=some 2∨r.2=some 1∨r.2=some 22
 calm:Calm m→r.2=none∧Calm r.1∧r.1.steps=m.steps+k
section
variable {k j:Nat} {m:ah} {r:ah×Option Int} {Q Q' E A B A' B':ah→Prop}
theorem Hr.cm (h:Hr k m r Q E) (ha:∀m',E m'→A m') (hb:∀m',E m'→B m'):Cm k m r Q A B:=by
 have n0:∀ {e:Int},r.2=some e→E r.1:=fun he=>h.no (by rw [he];simp)
 refine ⟨h.ok,fun he=>⟨ha _ (n0 he),?_⟩,fun he=>⟨hb _ (n0 he),?_⟩,fun he=>hb _ (n0 he),?_,h.calm⟩
 · rcases h.er with h | h | h
   · rw [h] at he;cases he
   · exact h.2
   · rw [h.1] at he;cases he
 · rcases h.er with h | h | h
   · rw [h] at he;cases he
   · rw [h.1] at he;cases he
   · exact h.2
 · rcases h.er with h | h | h
   · exact .inl h
   · exact .inr (.inl h.1)
   · exact .inr (.inr (.inl h.1))
theorem Cm.imp (h:Cm k m r Q A B) (hq:∀m',Q m'→Q' m') (ha:∀m',A m'→A' m') (hb:∀m',B m'→B' m'):Cm k m r Q' A' B':=
 ⟨fun hn=>⟨hq _ (h.ok hn).1,(h.ok hn).2⟩,fun hn=>⟨ha _ (h.io hn).1,(h.io hn).2⟩,fun hn=>⟨hb _ (h.dn hn).1,(h.dn hn).2⟩,fun hn=>hb _ (h.dd hn),h.er,h.calm⟩
theorem Cm.then {f:ah→ah×Option Int} (h:Cm k m r Q A B) (hf:∀m',Q m'→m'.down=false→Cm j m' (f m') Q' A B):Cm (k+j) m (aR r f) Q' A B:=by
 cases hr:r.2 with
 | some e=>
   have e1:aR r f=(r.1,some e):=by unfold aR;rw [hr]
   rw [e1]
   rw [←hr]
   exact ⟨fun hn=>(by rw [hr] at hn;cases hn),h.io,h.dn,h.dd,h.er,fun hc=>by have:=(h.calm hc).1;rw [hr] at this;cases this⟩
 | none=>
   have e1:aR r f=f r.1:=by unfold aR;rw [hr]
   rw [e1]
   obtain ⟨q,d⟩:=h.ok hr
   have h2:=hf _ q d
   exact ⟨h2.ok,h2.io,h2.dn,h2.dd,h2.er,fun hc=>by
     obtain ⟨_,c1,s1⟩:=h.calm hc
     obtain ⟨a,b,s2⟩:=h2.calm c1
     exact ⟨a,b,by omega⟩⟩
end
structure Cn (m:ah) (r:ah×Option Int) (Q A B:ah→Prop):Prop where
 ok:r.2=none→Q r.1∧r.1.down=false
 io:r.2=some 2→A r.1∧r.1.down=false
 dn:r.2=some 1→B r.1∧r.1.down=true
 dd:r.2=some 22→B r.1
 er:r.2=none∨r.2=some 2∨r.2=some 1∨r.2=some 22
 calm:Calm m→r.2=none∧Calm r.1
theorem Cm.cn {k:Nat} {m:ah} {r:ah×Option Int} {Q A B:ah→Prop} (h:Cm k m r Q A B):Cn m r Q A B:=⟨h.ok,h.io,h.dn,h.dd,h.er,fun hc=>⟨(h.calm hc).1,(h.calm hc).2.1⟩⟩
theorem Cn.then {m:ah} {r:ah×Option Int} {Q Q' A B:ah→Prop} {f:ah→ah×Option Int} (h:Cn m r Q A B) (hf:∀m',Q m'→m'.down=false→Cn m' (f m') Q' A B):Cn m (aR r f) Q' A B:=by
 cases hr:r.2 with
 | some e=>
   have e1:aR r f=(r.1,some e):=by unfold aR;rw [hr]
   rw [e1]
   rw [←hr]
   exact ⟨fun hn=>(by rw [hr] at hn;cases hn),h.io,h.dn,h.dd,h.er,fun hc=>by have:=(h.calm hc).1;rw [hr] at this;cases this⟩
 | none=>
   have e1:aR r f=f r.1:=by unfold aR;rw [hr]
   rw [e1]
   obtain ⟨q,d⟩:=h.ok hr
   have h2:=hf _ q d
   exact ⟨h2.ok,h2.io,h2.dn,h2.dd,h2.er,fun hc=>h2.calm (h.calm hc).2⟩
theorem Ch (r:ah×Option Int) (f g:ah→ah×Option Int):aR (aR r f) g=aR r fun m=>aR (f m) g:=by
 unfold aR
 cases r.2<;>rfl

section
variable {P P' W W':Dir→Prop} {Z Z':List (Nat×List UInt8)} {u c:Nat} {s:Int} {m:ah} {n:Nm}
theorem Ad (m:ah) (n:Nm):yF m n=(findD m.now n).isSome:=by
 unfold yF cg findD dw
 rw [Bool.eq_iff_iff,List.contains_iff_mem,List.find?_isSome]
 constructor
 · intro h
   obtain ⟨e,he,rfl⟩:=List.mem_map.1 h
   exact ⟨e,he,by simp⟩
 · rintro ⟨e,he,hn⟩
   exact List.mem_map.2 ⟨e,he,by simpa using hn⟩
def yC (m:ah) (n:Nm):Nat:=if yF m n then 1 else 0
theorem yf (h:SV P W Z u c s m) (hd:m.down=false) (hP:P (eO Ent.name m.now n)) (hW:W (eO Ent.name m.now n)):
   Hr (yC m n) m (aZ n m) (fun m'=>SV P W Z u c s m'∧findD m'.now n=none∧m'.files=m.files) (SV P W Z u c s):=by
 unfold aZ yC
 rw [Ad]
 cases hf:findD m.now n with
 | none=>exact Hr.nil hd ⟨h,hf,rfl⟩
 | some e=>
   refine (yh hd h.wf hf).hr (fun m' l=>⟨(h.remove hf hP hW (fun _ h=>h)).like l,?_,l.files⟩) (fun m' l=>h.like l)
   rw [l.now]
   show findD (mkD m.now ⟨none,n,[]⟩) n=none
   rw [GC hf]
   show dw Ent.name (eO Ent.name m.now n) n=none
   rw [yU];simp
end

theorem Kq:xq tN=none:=by
 cases h:xq tN with
 | none=>rfl
 | some x=>
   obtain ⟨h1,h2,h3⟩:=nY.1 h
   obtain ⟨r,e,_⟩:=mZ (c:=99) (v:=x) (by omega) h2
   rw [e] at h3
   cases h3
theorem EP {x:Int} (h0:0≤x) (h1:x≤1099511627776):cE (aW 99 x)=true:=by
 obtain ⟨r,e,_,hl,hb,_⟩:=mZ (c:=99) h0 h1
 rw [e]
 unfold cE
 simp only [List.length_cons,Bool.and_eq_true,decide_eq_true_eq,List.all_eq_true]
 refine ⟨⟨by omega,by omega⟩,fun b hb'=>?_⟩
 unfold qE
 rcases List.mem_cons.1 hb' with rfl | hb'
 · decide
 · have:=hb b hb'
   simp only [Bool.and_eq_true,decide_eq_true_eq,Bool.not_eq_true',decide_eq_false_iff_not]
   omega

section
variable {K:List UInt8} {L L2:List (Nm×Nat)} {g:Int} {Z:List (Nat×List UInt8)} {u c i:Nat} {s:Int} {m:ah} {C:bH} {b:List UInt8}

def zj (K:List UInt8) (L L2:List (Nm×Nat)) (g:Int) (i:Nat) (b:List UInt8) (Z:List (Nat×List UInt8)) (d:Dir):Prop:=VwD K L g Z d∨((i,b)∈Z∧VwD K ((aW 99 (g+1),i)::L2) (g+1) Z d)
def xH (K:List UInt8) (L L2:List (Nm×Nat)) (g:Int) (Z:List (Nat×List UInt8)) (u c:Nat) (s:Int) (m:ah):Prop:=∃Z',(∀z∈Z,z∈Z')∧SV (VwD K L g Z') (VwD K L2 g Z') Z' u c s m
def K9 (K:List UInt8) (L L2:List (Nm×Nat)) (g:Int) (i:Nat) (b:List UInt8) (Z:List (Nat×List UInt8)) (u c:Nat) (s:Int) (m:ah):Prop:=∃Z',(∀z∈Z,z∈Z')∧SV (zj K L L2 g i b Z') (fun _=>True) Z' u c s m
theorem xH.two (h:xH K L L2 g Z u c s m):K9 K L L2 g i b Z u c s m:=by
 obtain ⟨Z',hz,h⟩:=h
 exact ⟨Z',hz,h.imp (fun _ h=>.inl h) (fun _ _=>trivial) (Nat.le_refl _) (Nat.le_refl _)⟩

theorem Mv {Z2:List (Nat×List UInt8)} (hz2:∀z∈Z,z∈Z2) (h:SV (zj K L L2 g i b Z2) (VwD K ((aW 99 (g+1),i)::L2) (g+1) Z2) Z2 u c s m) (hd:m.down=false) (hLL:∀t∈L,t∈L2) (hcn:∀t∈L2,t.1≠aW 99 (g+1)):
   Cm 1 m (Cs (aW 99 (g+1)) m) (SV (VwD K ((aW 99 (g+1),i)::L2) (g+1) Z2) (VwD K ((aW 99 (g+1),i)::L2) (g+1) Z2) Z2 u c s) (xH K L L2 g Z u c s) (K9 K L L2 g i b Z u c s):=by
 obtain ⟨n,hn⟩:∃n,aW 99 (g+1)=n:=⟨_,rfl⟩
 have two:∀ {W:Dir→Prop} {m':ah},SV (zj K L L2 g i b Z2) W Z2 u c s m'→K9 K L L2 g i b Z u c s m':=fun h=>⟨Z2,hz2,h.imp (fun _ h=>h) (fun _ _=>trivial) (Nat.le_refl _) (Nat.le_refl _)⟩
 have hy:=(oI hd).hr (Q:=SV (VwD K ((aW 99 (g+1),i)::L2) (g+1) Z2) (VwD K ((aW 99 (g+1),i)::L2) (g+1) Z2) Z2 u c s) (E:=SV (zj K L L2 g i b Z2) (VwD K ((aW 99 (g+1),i)::L2) (g+1) Z2) Z2 u c s) (fun m' l=>(h.BW h.cur).like l) (fun m' l=>h.like l)
 have noc:∀ {r:ah×Option Int} {e:Int} {Q:Prop},(aL m).2=some e→Calm m→Q:=fun he hc=>by have:=(hy.calm hc).1;rw [he] at this;cases this
 rw [hn]
 unfold Cs
 rcases hy.er with he | ⟨he,hd1⟩ | ⟨he,hd1⟩
 · rw [he]
   simp only
   rw [←hn]
   exact ⟨fun _=>hy.ok he,fun h=>(by cases h),fun h=>(by cases h),fun h=>(by cases h),.inl rfl,fun hc=>⟨rfl,(hy.calm hc).2⟩⟩
 · rw [he]
   simp only
   rw [if_neg (by decide)]
   have h1:=hy.no (by rw [he];simp)
   obtain ⟨m1,hm1⟩:∃m1,(aL m).1=m1:=⟨_,rfl⟩
   rw [hm1] at h1 hd1 ⊢
   have hf:findD m1.now n=some ⟨n,i⟩:=by rw [←hn];exact h1.cur.1 _ (List.mem_cons_self ..)
   have hdel:VwD K L2 g Z2 (eO Ent.name m1.now n):=by
     have:=h1.cur.sub (L':=L2) (g':=g+1) (Z':=Z2) (fun t ht=>List.mem_cons_of_mem _ ht) (Int.le_refl _) (fun _ h=>h)
     have:=this.dn hcn
     rw [hn] at this;exact this
   have hr:=(yh hd1 h1.wf hf).hr (Q:=SV (zj K L L2 g i b Z2) (VwD K L2 g Z2) Z2 u c s) (E:=SV (zj K L L2 g i b Z2) (VwD K ((aW 99 (g+1),i)::L2) (g+1) Z2) Z2 u c s) (fun m' l=>(h1.remove hf (.inl (hdel.sub hLL (Int.le_refl _) (fun _ h=>h))) hdel (fun _ h=>h)).like l) (fun m' l=>h1.like l)
   unfold jX
   rcases hr.er with he2 | ⟨he2,hd2⟩ | ⟨he2,hd2⟩
   · rw [he2]
     simp only
     obtain ⟨h2,hd2⟩:=hr.ok he2
     obtain ⟨m2,hm2⟩:∃m2,(aM m1 n).1=m2:=⟨_,rfl⟩
     rw [hm2] at h2 hd2 ⊢
     have hs:=(oI hd2).hr (Q:=SV (VwD K L g Z2) (VwD K L2 g Z2) Z2 u c s) (E:=SV (zj K L L2 g i b Z2) (VwD K L2 g Z2) Z2 u c s) (fun m' l=>(h2.BW (h2.cur.sub hLL (Int.le_refl _) (fun _ h=>h))).like l) (fun m' l=>h2.like l)
     rcases hs.er with he3 | ⟨he3,hd3⟩ | ⟨he3,hd3⟩
     · rw [he3]
       simp only
       obtain ⟨h3,hd3⟩:=hs.ok he3
       exact ⟨fun h=>(by cases h),fun _=>⟨⟨Z2,hz2,h3⟩,hd3⟩,fun h=>(by cases h),fun h=>(by cases h),.inr (.inl rfl),noc (r:=(m,none)) he⟩
     · rw [he3]
       simp only
       exact ⟨fun h=>(by cases h),fun h=>(by cases h),fun h=>(by cases h),fun _=>two (hs.no (by rw [he3];simp)),.inr (.inr (.inr rfl)),noc (r:=(m,none)) he⟩
     · rw [he3]
       simp only
       exact ⟨fun h=>(by cases h),fun h=>(by cases h),fun _=>⟨two (hs.no (by rw [he3];simp)),hd3⟩,fun h=>(by cases h),.inr (.inr (.inl rfl)),noc (r:=(m,none)) he⟩
   · rw [he2]
     simp only
     exact ⟨fun h=>(by cases h),fun h=>(by cases h),fun h=>(by cases h),fun _=>two (hr.no (by rw [he2];simp)),.inr (.inr (.inr rfl)),noc (r:=(m,none)) he⟩
   · rw [he2]
     simp only
     exact ⟨fun h=>(by cases h),fun h=>(by cases h),fun _=>⟨two (hr.no (by rw [he2];simp)),hd2⟩,fun h=>(by cases h),.inr (.inr (.inl rfl)),noc (r:=(m,none)) he⟩
 · rw [he]
   simp only
   rw [if_pos trivial]
   exact ⟨fun h=>(by cases h),fun h=>(by cases h),fun _=>⟨two (hy.no (by rw [he];simp)),hd1⟩,fun h=>(by cases h),.inr (.inr (.inl rfl)),noc (r:=(m,none)) he⟩

theorem Ac (h:SV (VwD K L g Z) (VwD K L2 g Z) Z u c s m) (hd:m.down=false) (hLL:∀t∈L,t∈L2) (hg:C.gen=g+1) (hck:aI C=true) (hok:gB C) (ht:∀t∈L2,t.1≠tN) (hcn:∀t∈L2,t.1≠aW 99 (g+1)) (hc:c<4096) (hs:(u:Int)+(jq K C).length≤s):
   Cm (yC m tN+5+1) m (aX K C m) (fun m'=>SV (VwD K ((aW 99 (g+1),m.files.length)::L2) (g+1) ((m.files.length,jq K C)::Z)) (VwD K ((aW 99 (g+1),m.files.length)::L2) (g+1) ((m.files.length,jq K C)::Z)) ((m.files.length,jq K C)::Z) (u+(jq K C).length) (c+1) s m')
     (xH K L L2 g Z (u+(jq K C).length) (c+1) s) (K9 K L L2 g m.files.length (jq K C) Z (u+(jq K C).length) (c+1) s):=by
 obtain ⟨b,hb⟩:∃b,jq K C=b:=⟨_,rfl⟩
 have hbd:=bh hck
 have hgood:cE (aW 99 (g+1))=true:=EP (by omega) (by omega)
 have hL1t:∀t∈L,t.1≠tN:=fun t h'=>ht t (hLL t h')
 rw [hb] at hs ⊢
 have e0:aX K C m=aR (aR (aZ tN m) fun m=>aR (aN m tN) fun m=>aR (aP m tN [b]) fun m=>aR (cW m tN) fun m=>aR (aL m) fun m=>dZ m tN (aW 99 (g+1))) (Cs (aW 99 (g+1))):=by
   unfold aX
   rw [if_pos hck,hb,hg]
   simp only [Ch]
   rfl
 rw [e0]
 obtain ⟨Z2,hZ2⟩:∃Z2,(m.files.length,b)::Z=Z2:=⟨_,rfl⟩
 have hz2:∀z∈Z,z∈Z2:=fun z hz=>by rw [←hZ2];exact List.mem_cons_of_mem _ hz
 rw [hZ2]
 refine Cm.then (Q:=SV (zj K L L2 g m.files.length b Z2) (VwD K ((aW 99 (g+1),m.files.length)::L2) (g+1) Z2) Z2 (u+b.length) (c+1) s) ?_ fun m' q hd'=>Mv hz2 q hd' hLL hcn
 refine Hr.cm (E:=SV (VwD K L g Z) (VwD K L2 g Z) Z (u+b.length) (c+1) s) ?_ (fun m' q=>⟨Z,fun _ h=>h,q⟩) (fun m' q=>xH.two ⟨Z,fun _ h=>h,q⟩)
 have wide:∀ {u' c':Nat} {m':ah},SV (VwD K L g Z) (VwD K L2 g Z) Z u' c' s m'→u'≤u+b.length→c'≤c+1→SV (VwD K L g Z) (VwD K L2 g Z) Z (u+b.length) (c+1) s m':=fun h hu hc=>h.imp (fun _ h=>h) (fun _ h=>h) hu hc
 refine Hr.then ((yf h hd (h.now.del hL1t) (h.cur.del ht)).imp (fun _ h=>h) (fun _ q=>wide q (by omega) (by omega))) fun m1 ⟨q1,f1,e1⟩ hd1=>?_
 have hi:m1.files.length=m.files.length:=by rw [e1]
 have hz:∀z∈Z,z.1≠m.files.length:=fun z hz=>by have:=(h.frz z hz).1;omega
 rw [show (5:Nat)=1+(1+(1+(1+1))) by rfl]
 refine Hr.then ((ud q1 hd1 (by decide) f1 hc (q1.now.ins q1.wf.dV.asc hL1t Kq _) (q1.cur.ins q1.wf.dV.asc ht Kq _)).imp (fun _ h=>h) (fun _ q=>wide q (by omega) (by omega))) fun m2 ⟨q2,f2,a2⟩ hd2=>?_
 rw [hi] at f2 a2
 have eb: [b].flatten=b:=by simp
 have h3:=u0 (ps:=[b]) q2 hd2 f2 a2 hz (by rw [eb];exact hs)
 rw [eb] at h3
 refine Hr.then (h3.imp (fun _ h=>h) (fun _ q=>wide q (by omega) (by omega))) fun m3 ⟨q3,f3,a3⟩ hd3=>?_
 refine Hr.then ((BV q3 hd3 f3 a3).imp (fun _ h=>h) (fun _ q=>wide q (by omega) (by omega))) fun m4 ⟨q4,f4,a4⟩ hd4=>?_
 rw [List.nil_append] at a4
 refine Hr.then ((oI hd4).hr (Q:=fun m'=>SV (VwD K L g Z) (VwD K L2 g Z) Z (u+b.length) (c+1) s m'∧findD m'.now tN=some ⟨tN,m.files.length⟩∧fileAt m'.files m.files.length=⟨b,b.length⟩) (fun m' l=>⟨(q4.BW q4.now).like l,by rw [l.now];exact f4,by rw [l.files];exact a4⟩) (fun m' l=>q4.like l)) fun m5 ⟨q5,f5,a5⟩ hd5=>?_
 have q6:SV (zj K L L2 g m.files.length b Z2) (VwD K L2 g Z) Z2 (u+b.length) (c+1) s m5:=by
   have:=(q5.MQ (iW q5.wf f5).2.2.1 a5).imp (P':=zj K L L2 g m.files.length b Z2) (fun d h=>.inl (h.sub (fun _ h=>h) (Int.le_refl _) hz2)) (fun _ h=>h) (Nat.le_refl _) (Nat.le_refl _)
   rw [←hZ2] at this ⊢
   exact this
 have hW:VwD K ((aW 99 (g+1),m.files.length)::L2) (g+1) Z2 (ep Ent.name (eO Ent.name m5.now tN) ⟨aW 99 (g+1),m.files.length⟩):=by
   have h1:=(q6.cur.del ht).sub (L':=L2) (g':=g) (Z':=Z2) (fun _ h=>h) (Int.le_refl _) hz2
   have:=h1.up (C:=C) (i:=m.files.length) (oN q6.wf.dV.asc tN) (by rw [hg];exact hcn) (by omega) hck hok (by rw [←hZ2,←hb];exact List.mem_cons_self ..)
   rw [hg] at this;exact this
 refine (Fo hd5 q5.wf f5 hgood).hr (fun m' l=>((q6.rename f5 hgood (.inr ⟨by rw [←hZ2];exact List.mem_cons_self ..,hW⟩) hW (fun _ h=>h)).1).like l) (fun m' l=>q5.like l)
end

end Go.Proofs.YtpmhjnhgpplmnaaGreatDoor
end

section
namespace Go.Proofs.YtpmhjnhgpplmnaaGreatDoor
open Go Sx
set_option maxRecDepth 8000

theorem uo (num:Int):∀(xs:List Itm) (s i:Nat) (x:Itm),xs[i]?=some x→(aQ num s xs)[i]?=some (mkRef x.1 num (((nA s (xs.take i)+(dK x).length:Nat):Int)- ((x.2.length:Nat):Int)) ((x.2.length:Nat):Int))
 | [],_,_,_,h=>by simp at h
 | y::r,s,0,x,h=>by
   simp only [List.getElem?_cons_zero,Option.some.injEq] at h
   subst h;rfl
 | y::r,s,i+1,x,h=>by
   have ih:=uo num r (s+(dK y).length) i x (by simpa using h)
   simpa [aQ,nA] using ih
def H9 (x:Itm):List UInt8:=2::(gT (x.1++x.2).length++x.1)
theorem Dh (x:Itm):dK x=H9 x++x.2:=by simp [dK,ko,H9]
theorem Ey {xs:List Itm} {i:Nat} {x:Itm} (hx:xs[i]?=some x):(xs.map dK).flatten=((xs.take i).map dK).flatten++(dK x++((xs.drop (i+1)).map dK).flatten):=by
 obtain ⟨hi,he⟩:=List.getElem?_eq_some_iff.1 hx
 have:xs=xs.take i++x::xs.drop (i+1):=by rw [←he,←List.drop_eq_getElem_cons hi,List.take_append_drop]
 have h2:=congrArg (fun l=>(l.map dK).flatten) this
 simpa using h2
theorem vn (K:List UInt8) (num:Int) (xs:List Itm):bf K num xs=iF num++((xs.map dK).flatten++fR K num (aQ num 16 xs)):=by simp [bf,dH]

theorem El {num:Int} {xs:List Itm} (hs:bY xs) {i:Nat} {x:Itm} (hx:xs[i]?=some x):x.1.length=32∧x.2.length≤(dK x).length∧nA 16 (xs.take i)+(dK x).length≤33900032:=by
 have hm:=List.mem_of_getElem? hx
 have h1:=hs.idl x hm
 have h2:=hs.iD hm
 have h3:=sD x h1 (by omega)
 have h4:=(hs.take i).bytes
 refine ⟨h1,by omega,?_⟩
 rw [su]
 omega

theorem DM (K:List UInt8) {num:Int} (hg:cQ num=true) {xs:List Itm} (hs:bY xs) {i:Nat} {x:Itm} (hx:xs[i]?=some x) {r:bw} (hr:(aQ num 16 xs)[i]?=some r):
   r.id=x.1∧r.pack=num∧r.at_+r.len=((nA 16 (xs.take i)+(dK x).length:Nat):Int)∧yY (bf K num xs) r=true∧Ky (bf K num xs) r=x.2:=by
 have hgi:=dy.1 hg
 obtain ⟨h1,h2,h3⟩:=El (num:=num) hs hx
 rw [uo num xs 16 i x hx,Option.some.injEq] at hr
 obtain ⟨e1,e2,e3,e4⟩:=Du (p:=num) (q:=(((nA 16 (xs.take i)+(dK x).length:Nat):Int)- ((x.2.length:Nat):Int))) (n:=((x.2.length:Nat):Int)) h1 ⟨by omega,by omega⟩ ⟨by omega,by omega⟩ ⟨by omega,by omega⟩
 rw [hr] at e1 e2 e3 e4
 have hlen:(dK x).length=(H9 x).length+x.2.length:=by rw [Dh,List.length_append]
 have hat:r.at_=(((iF num++((xs.take i).map dK).flatten++H9 x).length:Nat):Int):=by
   rw [e3,su]
   simp only [List.length_append,jN]
   omega
 have hb:bf K num xs=(iF num++((xs.take i).map dK).flatten++H9 x)++(x.2++(((xs.drop (i+1)).map dK).flatten++fR K num (aQ num 16 xs))):=by
   rw [vn,Ey hx,Dh]
   simp only [List.append_assoc]
 have hok:yY (bf K num xs) r=true:=by
   have hl:(bf K num xs).length=(iF num++((xs.take i).map dK).flatten++H9 x).length+(x.2.length+(((xs.drop (i+1)).map dK).flatten++fR K num (aQ num 16 xs)).length):=by
     rw [hb];simp only [List.length_append]
   simp only [yY,Bool.and_eq_true,decide_eq_true_eq]
   rw [hat,e4]
   omega
 refine ⟨e1,e2,by omega,hok,?_⟩
 rw [Ky,if_pos hok,hat,e4,Int.toNat_natCast,Int.toNat_natCast,hb,List.drop_left' rfl,List.take_left' rfl]

end Go.Proofs.YtpmhjnhgpplmnaaGreatDoor
end

section
namespace Go.Proofs.YtpmhjnhgpplmnaaGreatDoor
open Go Sx
set_option maxRecDepth 8000

def HJ (K p:List UInt8):Itm:=(idF K p,dD K 2 (idF K p) p)
abbrev PkL:=List (Int×List Itm)
def oR (PL:PkL):Refs:=PL.flatMap fun q=>aQ q.1 16 q.2
def oH (K:List UInt8) (q:Int×List Itm):PkD:=⟨q.1,((bf K q.1 q.2).length:Int),(q.2.length:Int)⟩
structure RL (K:List UInt8) (ps:List PkD) (S:Refs) (PL:PkL) (U:List (List UInt8)):Prop where
 aq:ps=PL.map (oH K)
 Ee:∀q∈PL,cQ q.1=true
 diff:PL.Pairwise fun x y=>x.1≠y.1
 small:∀q∈PL,bY q.2
 itm:∀q∈PL,∀x∈q.2,∃p∈U,x=HJ K p
 asc:Asc S
 refs:S.Perm (oR PL)
 len:∀p∈U,p.length≤67000000

theorem F9 {S:Refs} (h:Asc S) {x:bw} (hx:x∈S):findF S x.id=some x:=(mh (kid:=bw.id) h).2 hx
theorem EL {S:Refs} {id:List UInt8} {x:bw} (h:findF S id=some x):x∈S∧x.id=id:=eB (kid:=bw.id) h
theorem DN (K:List UInt8) {num:Int} (hg:cQ num=true) {xs:List Itm} (hs:bY xs) {r:bw} (hr:r∈aQ num 16 xs):∃x∈xs,r.id=x.1∧r.pack=num∧yY (bf K num xs) r=true∧Ky (bf K num xs) r=x.2:=by
 obtain ⟨i,hi⟩:=List.mem_iff_getElem?.1 hr
 have hlt:i<xs.length:=by have:=(List.getElem?_eq_some_iff.1 hi).1;rwa [fo] at this
 obtain ⟨h1,h2,_,h4,h5⟩:=DM K hg hs (List.getElem?_eq_getElem hlt) hi
 exact ⟨_,List.getElem_mem hlt,h1,h2,h4,h5⟩
theorem Ex {num:Int} (hg:cQ num=true) {xs:List Itm} (hs:bY xs) {r:bw} (hr:r∈aQ num 16 xs):r.pack=num:=by
 obtain ⟨_,_,_,h,_⟩:=DN [] hg hs hr;exact h
theorem u5 {num:Int} (hg:cQ num=true) {xs:List Itm} (hs:bY xs):(aQ num 16 xs).map (·.id)=xs.map (·.1):=by
 apply List.ext_getElem?
 intro i
 rw [List.getElem?_map,List.getElem?_map]
 cases hx:xs[i]? with
 | none=>
   have:(aQ num 16 xs)[i]?=none:=by rw [List.getElem?_eq_none_iff,fo];exact List.getElem?_eq_none_iff.1 hx
   rw [this];rfl
 | some x=>
   have hr:=uo num xs 16 i x hx
   rw [hr]
   exact congrArg some (DM [] hg hs hx hr).1

structure FrI (K:List UInt8) (S:Refs) (drop:List Int) (done:List (List UInt8)) (st:List Itm×List (List UInt8)):Prop where
 ids:st.2=st.1.map (·.1)
 nd:st.2.Nodup
 src:∀x∈st.1,∃p∈done,x=HJ K p∧iM S drop x.1=false
 all:∀p∈done,idF K p∈st.2∨iM S drop (idF K p)=true
theorem yO (K:List UInt8) (S:Refs) (drop:List Int):∀(ls done:List (List UInt8)) (st:List Itm×List (List UInt8)),FrI K S drop done st→FrI K S drop (done++ls) (ls.foldl (bL K S drop) st)
 | [],done,st,h=>by simpa using h
 | p::ls,done,st,h=>by
   have e:done++p::ls=(done++ [p])++ls:=by simp
   rw [e,List.foldl_cons]
   refine yO K S drop ls (done++ [p]) _ ?_
   unfold bL
   by_cases hc:(st.2.contains (idF K p)||iM S drop (idF K p))=true
   · rw [if_pos hc]
     refine ⟨h.ids,h.nd,fun x hx=>?_,fun y hy=>?_⟩
     · obtain ⟨q,hq,r⟩:=h.src x hx
       exact ⟨q,List.mem_append_left _ hq,r⟩
     · rcases List.mem_append.1 hy with hy | hy
       · exact h.all y hy
       · simp only [List.mem_singleton] at hy
         subst hy
         simp only [Bool.or_eq_true,List.contains_iff_mem] at hc
         exact hc
   · rw [if_neg hc]
     simp only [Bool.or_eq_true,List.contains_iff_mem,not_or,Bool.not_eq_true] at hc
     refine ⟨by simp [h.ids],?_,fun x hx=>?_,fun y hy=>?_⟩
     · show (st.2++ [idF K p]).Nodup
       rw [List.nodup_append]
       refine ⟨h.nd,by simp,fun a ha b hb=>?_⟩
       simp only [List.mem_singleton] at hb
       rintro rfl
       exact hc.1 (hb ▸ ha)
     · rcases List.mem_append.1 hx with hx | hx
       · obtain ⟨q,hq,r⟩:=h.src x hx
         exact ⟨q,List.mem_append_left _ hq,r⟩
       · simp only [List.mem_singleton] at hx
         exact ⟨p,by simp,hx,by rw [hx];exact hc.2⟩
     · show idF K y∈st.2++ [idF K p]∨_
       rcases List.mem_append.1 hy with hy | hy
       · exact (h.all y hy).imp (List.mem_append_left _) id
       · simp only [List.mem_singleton] at hy
         subst hy
         exact .inl (by simp)
theorem kB (K:List UInt8) (S:Refs) (drop:List Int) (ls:List (List UInt8)):FrI K S drop ls (fM K S drop ls):=by
 have:=yO K S drop ls [] ([],[]) ⟨rfl,List.nodup_nil,by simp,by simp⟩
 simpa [fM] using this

theorem FQ {S:Refs} (h:Asc S) {r:bw} (hn:∀x∈S,x.id≠r.id):(qy S r).Perm (r::S):=by
 obtain ⟨A,B,e,hS,_⟩:=nP h r
 rcases hS with rfl | ⟨y,hy,rfl⟩
 · rw [e];exact List.perm_middle
 · exact absurd hy (hn y (by simp))
theorem Aw:∀(l S:Refs),Asc S→(∀x∈S,∀y∈l,x.id≠y.id)→(l.map (·.id)).Nodup→(gE S l).Perm (S++l)
 | [],S,_,_,_=>by simp [gE]
 | r::l,S,h,hd,hn=>by
   rw [List.map_cons,List.nodup_cons] at hn
   have h1:=FQ h (r:=r) (fun x hx=>hd x hx r (by simp))
   have h2:=Aw l (qy S r) (sL h r) (fun x hx y hy=>by
     rcases List.mem_cons.1 (h1.mem_iff.1 hx) with rfl | hx
     · exact fun e=>hn.1 (List.mem_map.2 ⟨y,hy,e.symm⟩)
     · exact hd x hx y (by simp [hy])) hn.2
   show (gE (qy S r) l).Perm (S++r::l)
   refine h2.trans ((List.Perm.append_right l h1).trans ?_)
   rw [List.cons_append]
   exact List.perm_middle.symm
theorem CM {S:Refs} (h:Asc S) (drop:List Int):Asc (aV S drop):=h.sublist List.filter_sublist
theorem yS (drop:List Int):∀ {PL:PkL},(∀q∈PL,cQ q.1=true∧bY q.2)→(oR PL).filter (fun r=> !drop.contains r.pack)=oR (PL.filter fun q=> !drop.contains q.1)
 | [],_=>rfl
 | q::PL,h=>by
   obtain ⟨hg,hs⟩:=h q (by simp)
   have ih:=yS drop (PL:=PL) fun x hx=>h x (by simp [hx])
   unfold oR at ih ⊢
   rw [List.flatMap_cons,List.filter_append,ih,List.filter_cons]
   have hp:∀r∈aQ q.1 16 q.2,r.pack=q.1:=fun r hr=>Ex hg hs hr
   cases hc:drop.contains q.1 with
   | true=>
     have:(aQ q.1 16 q.2).filter (fun r=> !drop.contains r.pack)=[]:=List.filter_eq_nil_iff.2 fun r hr=>by rw [hp r hr,hc];simp
     rw [this];simp
   | false=>
     have:(aQ q.1 16 q.2).filter (fun r=> !drop.contains r.pack)=aQ q.1 16 q.2:=List.filter_eq_self.2 fun r hr=>by rw [hp r hr,hc];rfl
     rw [this];simp

def dB (PL:PkL) (drop:List Int) (n:Int) (xs:List Itm):PkL:=(PL.filter fun q=> !drop.contains q.1)++if xs=[] then [] else [(n,xs)]
section
variable {K:List UInt8} {ps:List PkD} {S:Refs} {PL:PkL} {U:List (List UInt8)}

theorem RL.stays (h:RL K ps S PL U) {drop:List Int} {id:List UInt8} :iM S drop id=true↔∃x∈aV S drop,x.id=id:=by
 unfold iM
 constructor
 · intro hs
   cases hf:findF S id with
   | none=>rw [hf] at hs;cases hs
   | some x=>
     rw [hf] at hs
     obtain ⟨h1,h2⟩:=EL hf
     exact ⟨x,List.mem_filter.2 ⟨h1,hs⟩,h2⟩
 · rintro ⟨x,hx,rfl⟩
   obtain ⟨h1,h2⟩:=List.mem_filter.1 hx
   rw [F9 h.asc h1]
   exact h2
theorem RL.perm (h:RL K ps S PL U) (drop:List Int) (ls:List (List UInt8)) {n:Int} (hg:cQ n=true) (hs:bY (aH K S drop ls)):(gE (aV S drop) (aQ n 16 (aH K S drop ls))).Perm (aV S drop++aQ n 16 (aH K S drop ls)):=by
 have hf:=kB K S drop ls
 have hids:(aQ n 16 (aH K S drop ls)).map (·.id)=(aH K S drop ls).map (·.1):=u5 hg hs
 refine Aw _ _ (CM h.asc drop) (fun x hx y hy=>?_) (by rw [hids];exact hf.ids ▸ hf.nd)
 have hy2:y.id∈(aH K S drop ls).map (·.1):=by rw [←hids];exact List.mem_map_of_mem hy
 obtain ⟨z,hz,hzy⟩:=List.mem_map.1 hy2
 obtain ⟨_,_,_,hno⟩:=hf.src z hz
 intro e
 have:iM S drop z.1=true:=h.stays.2 ⟨x,hx,by rw [e,hzy]⟩
 rw [hno] at this;cases this
theorem RL.next (h:RL K ps S PL U) (drop:List Int) (ls:List (List UInt8)) (hls:∀p∈ls,p.length≤67000000) {n:Int} (hg:cQ n=true) (hn:∀q∈PL,q.1≠n) (hs:bY (aH K S drop ls)):
   RL K ((dB PL drop n (aH K S drop ls)).map (oH K)) (gE (aV S drop) (aQ n 16 (aH K S drop ls))) (dB PL drop n (aH K S drop ls)) (U++ls):=by
 have hf:=kB K S drop ls
 obtain ⟨xs,hx⟩:∃xs,aH K S drop ls=xs:=⟨_,rfl⟩
 have hx':(fM K S drop ls).1=xs:=hx
 rw [hx] at hs ⊢
 have hids:(aQ n 16 xs).map (·.id)=xs.map (·.1):=u5 hg hs
 have mem:∀q∈dB PL drop n xs,(q∈PL∧drop.contains q.1=false)∨(q=(n,xs)∧xs≠ []):=fun q hq=>by
   rcases List.mem_append.1 hq with hq | hq
   · have:=List.mem_filter.1 hq
     exact .inl ⟨this.1,by simpa using this.2⟩
   · split at hq
     · cases hq
     · rename_i hne
       exact .inr ⟨by simpa using hq,hne⟩
 refine ⟨rfl,fun q hq=>?_,?_,fun q hq=>?_,fun q hq x hx=>?_,Gh (CM h.asc drop),?_,fun p hp=>?_⟩
 · rcases mem q hq with ⟨hq,_⟩ | ⟨rfl,_⟩
   · exact h.Ee q hq
   · exact hg
 · unfold dB
   refine List.pairwise_append.2 ⟨h.diff.sublist List.filter_sublist,by split<;>simp,fun x hx y hy=>?_⟩
   split at hy
   · cases hy
   · simp only [List.mem_singleton] at hy
     rw [hy]
     exact hn x (List.mem_filter.1 hx).1
 · rcases mem q hq with ⟨hq,_⟩ | ⟨rfl,_⟩
   · exact h.small q hq
   · exact hs
 · rcases mem q hq with ⟨hq,_⟩ | ⟨rfl,_⟩
   · obtain ⟨p,hp,e⟩:=h.itm q hq x hx
     exact ⟨p,List.mem_append_left _ hp,e⟩
   · obtain ⟨p,hp,e,_⟩:=hf.src x (by rw [hx'];exact hx)
     exact ⟨p,List.mem_append_right _ hp,e⟩
 · have h1:=h.perm drop ls hg (by rw [hx];exact hs)
   rw [hx] at h1
   refine h1.trans ?_
   have h2:(aV S drop).Perm (oR (PL.filter fun q=> !drop.contains q.1)):=by
     rw [←yS drop fun q hq=>⟨h.Ee q hq,h.small q hq⟩]
     exact h.refs.filter _
   have h3:oR (dB PL drop n xs)=oR (PL.filter fun q=> !drop.contains q.1)++aQ n 16 xs:=by
     unfold dB oR
     rw [List.flatMap_append]
     split
     · rename_i h0;rw [h0];rfl
     · simp
   rw [h3]
   exact List.Perm.append_right _ h2
 · rcases List.mem_append.1 hp with hp | hp
   · exact h.len p hp
   · exact hls p hp
theorem RL.there (h:RL K ps S PL U) (drop:List Int) (ls:List (List UInt8)) {n:Int} (hg:cQ n=true) (hs:bY (aH K S drop ls)):
   (∀p∈ls,∃x∈gE (aV S drop) (aQ n 16 (aH K S drop ls)),x.id=idF K p)∧(drop=[]→∀x∈S,x∈gE (aV S drop) (aQ n 16 (aH K S drop ls))):=by
 have hp:=h.perm drop ls hg hs
 have hf:=kB K S drop ls
 refine ⟨fun p hpl=>?_,fun hd x hx=>hp.mem_iff.2 (List.mem_append_left _ (by rw [hd];exact List.mem_filter.2 ⟨hx,rfl⟩))⟩
 rcases hf.all p hpl with h1 | h1
 · rw [hf.ids] at h1
   have:idF K p∈(aQ n 16 (aH K S drop ls)).map (·.id):=by rw [u5 hg hs];exact h1
   obtain ⟨x,hx,e⟩:=List.mem_map.1 this
   exact ⟨x,hp.mem_iff.2 (List.mem_append_right _ hx),e⟩
 · obtain ⟨x,hx,e⟩:=h.stays.1 h1
   exact ⟨x,hp.mem_iff.2 (List.mem_append_left _ hx),e⟩

theorem RL.at_ (h:RL K ps S PL U) {x:bw} (hx:x∈S):∃q∈PL,∃p∈U,x.pack=q.1∧x.id=idF K p∧yY (bf K q.1 q.2) x=true∧Ky (bf K q.1 q.2) x=dD K 2 (idF K p) p:=by
 obtain ⟨q,hq,hxq⟩:=List.mem_flatMap.1 (h.refs.mem_iff.1 hx)
 obtain ⟨y,hy,h1,h2,h3,h4⟩:=DN K (h.Ee q hq) (h.small q hq) hxq
 obtain ⟨p,hp,rfl⟩:=h.itm q hq y hy
 exact ⟨q,hq,p,hp,h2,h1,h3,h4⟩
theorem yB:∀ {PL:PkL},(oR PL).length=(PL.map fun q=>q.2.length).sum
 | []=>rfl
 | q::PL=>by
   have:=yB (PL:=PL)
   unfold oR at this ⊢
   rw [List.flatMap_cons,List.length_append,fo,this];simp
end

end Go.Proofs.YtpmhjnhgpplmnaaGreatDoor
end

section
namespace Go.Proofs.YtpmhjnhgpplmnaaGreatDoor
open Go Sx
set_option maxRecDepth 8000

structure RO (K kf:List UInt8) (C:bH) (S:Refs) (PL:PkL) (U:List (List UInt8)) (L:List (Nm×Nat)) (Z:List (Nat×List UInt8)):Prop where
 rl:RL K C.aq S PL U
 key:∃i,(dL,i)∈L∧(i,kf)∈Z
 cat:∃i,(aW 99 C.gen,i)∈L∧(i,jq K C)∈Z
 pk:∀q∈PL,∃i,(aA q.1,i)∈L∧(i,bf K q.1 q.2)∈Z
 only:∀t∈L,t.1=dL∨t.1=aW 99 C.gen∨∃q∈PL,t.1=aA q.1
 chk:aI C=true
 cok:gB C
theorem RO.zs {K kf:List UInt8} {C:bH} {S:Refs} {PL:PkL} {U:List (List UInt8)} {L:List (Nm×Nat)} {Z Z':List (Nat×List UInt8)} (h:RO K kf C S PL U L Z) (hz:∀z∈Z,z∈Z'):RO K kf C S PL U L Z':=
 ⟨h.rl,let ⟨i,a,b⟩:=h.key;⟨i,a,hz _ b⟩,let ⟨i,a,b⟩:=h.cat;⟨i,a,hz _ b⟩,fun q hq=>let ⟨i,a,b⟩:=h.pk q hq;⟨i,a,hz _ b⟩,h.only,h.chk,h.cok⟩

theorem zY {c:UInt8} {a b:Int} (ha:0≤a∧a≤1099511627776) (hb:0≤b∧b≤1099511627776) (h:aW c a=aW c b):a=b:=by
 obtain ⟨r,e,_,_,_,f⟩:=mZ (c:=c) ha.1 ha.2
 obtain ⟨r',e',_,_,_,f'⟩:=mZ (c:=c) hb.1 hb.2
 rw [e,e'] at h
 cases h
 omega
theorem G8 {a b:Int} (ha:cQ a=true) (hb:cQ b=true) (h:aA a=aA b):a=b:=zY (c:=112) (dy.1 ha) (dy.1 hb) h
theorem iV {a b:UInt8} (hab:a≠b) (l m:List UInt8):a::l≠b::m:=fun h=>hab (by cases h;rfl)
theorem pO {b:UInt8} (hb:b≠99) (l:List UInt8):xq (b::l)=none:=by
 cases h:xq (b::l) with
 | none=>rfl
 | some x=>exact absurd (nY.1 h).2.2.symm (iV hb _ _)
theorem IW {next:Int} :∀ {Q:List PkD} {last:Int},iR next last Q=true→∀p∈Q,last<p.num∧p.num<next:=fun h p hp=>tX h p hp
theorem RO.num {K kf:List UInt8} {C:bH} {S:Refs} {PL:PkL} {U:List (List UInt8)} {L:List (Nm×Nat)} {Z:List (Nat×List UInt8)} (h:RO K kf C S PL U L Z) {q:Int×List Itm} (hq:q∈PL):q.1<C.next:=by
 have hc:=h.chk
 unfold aI at hc
 simp only [Bool.and_eq_true] at hc
 exact (IW hc.2.2.2 (oH K q) (by rw [h.rl.aq];exact List.mem_map_of_mem hq)).2

section
variable {P:Dir→Prop} {K kf:List UInt8} {C:bH} {S:Refs} {PL:PkL} {U:List (List UInt8)} {L:List (Nm×Nat)} {Z:List (Nat×List UInt8)} {g:Int} {u c:Nat} {s:Int} {m:ah} {n:Nm} {i:Nat} {b:List UInt8}

theorem Lw (h:SV P (VwD K L g Z) Z u c s m) (hd:m.down=false) (hL:(n,i)∈L) (hZ:(i,b)∈Z):bW m n=none∧cA m n=i∧(fileAt m.files i).data=b∧oW m n=b:=by
 have hf:findD m.now n=some ⟨n,i⟩:=h.cur.1 _ hL
 obtain ⟨h1,h2⟩:=oc hd h.wf hf
 have h3:(fileAt m.files i).data=b:=by rw [(h.frz _ hZ).2]
 have h2:cA m n=i:=h2
 exact ⟨h1,h2,h3,by unfold oW;rw [h1,h2,h3];rfl⟩
theorem F6 (ro:RO K kf C S PL U L Z) (sv:SV P (VwD K L g Z) Z u c s m) (hd:m.down=false) {id:List UInt8} (h:∃x∈S,x.id=id):∃p∈U,idF K p=id∧getM ⟨K,C,S,false⟩ m id=(none,p):=by
 obtain ⟨x,hx,rfl⟩:=h
 obtain ⟨q,hq,p,hp,h1,h2,h3,h4⟩:=ro.rl.at_ hx
 refine ⟨p,hp,h2.symm,?_⟩
 obtain ⟨i,hL,hZ⟩:=ro.pk q hq
 obtain ⟨r1,r2,r3,_⟩:=Lw sv hd hL hZ
 have hE:gD m (aA x.pack) x.at_ x.len=none:=by
   unfold gD
   rw [h1,r1,r2,r3]
   simp only
   rw [if_neg]
   unfold yY at h3
   unfold oF
   simp only [Bool.and_eq_true,decide_eq_true_eq] at h3
   simp only [Bool.or_eq_true,decide_eq_true_eq,not_or]
   omega
 have hF:eL m (aA x.pack) x.at_ x.len=dD K 2 x.id p:=by
   have h5:eL m (aA x.pack) x.at_ x.len=((fileAt m.files (cA m (aA x.pack))).data.drop x.at_.toNat).take x.len.toNat:=by
     unfold eL;rw [hE];rfl
   rw [h5,h1,r2,r3,h2,←h4]
   unfold Ky
   rw [if_pos h3]
 have hl:=ro.rl.len p hp
 unfold getM
 rw [show kj ⟨K,C,S,false⟩ m=none by unfold kj;rw [hd];rfl]
 simp only
 rw [F9 ro.rl.asc hx]
 simp only
 rw [hE,hF,yV K 2 x.id p (by omega)]
 simp only [Option.isSome_none,Bool.false_eq_true,if_false]
 rw [if_pos h2.symm]
end

section
variable {P W:Dir→Prop} {Z:List (Nat×List UInt8)} {u c:Nat} {s:Int} {m:ah}
theorem Jh (h:SV P W Z u c s m) {n:Nm} (hP:∀d,P d→P (eO Ent.name d n)) (hW:∀d,W d→W (eO Ent.name d n)):SV P W Z u c s (aZ n m).1∧(Calm m→Calm (aZ n m).1):=by
 cases hd:m.down with
 | true=>
   have e:(aZ n m).1=m:=by
     unfold aZ
     split
     · unfold aM bW
       rw [hd];rfl
     · rfl
   rw [e]
   exact ⟨h,fun hc=>hc⟩
 | false=>
   have:=yf h hd (hP _ h.now) (hW _ h.cur)
   refine ⟨?_,fun hc=>(this.calm hc).2.1⟩
   cases he:(aZ n m).2 with
   | none=>exact (this.ok he).1.1
   | some e=>exact this.no (by rw [he];simp)
theorem GV:∀(ns:List Nm) {m:ah},SV P W Z u c s m→(∀n∈ns,∀d,P d→P (eO Ent.name d n))→(∀n∈ns,∀d,W d→W (eO Ent.name d n))→SV P W Z u c s (dW ns m)∧(Calm m→Calm (dW ns m))
 | [],m,h,_,_=>⟨h,fun h=>h⟩
 | n::ns,m,h,hP,hW=>by
   obtain ⟨h1,h2⟩:=Jh h (hP n (by simp)) (hW n (by simp))
   obtain ⟨h3,h4⟩:=GV ns h1 (fun x hx=>hP x (by simp [hx])) (fun x hx=>hW x (by simp [hx]))
   exact ⟨h3,fun hc=>h4 (h2 hc)⟩
end

def jE (K kf:List UInt8) (C:bH) (S:Refs) (PL:PkL) (U:List (List UInt8)) (u c:Nat) (s:Int) (m:ah):Prop:=∃L Z,RO K kf C S PL U L Z∧SV (VwD K L C.gen Z) (VwD K L C.gen Z) Z u c s m
def LP (K kf:List UInt8) (C:bH) (S:Refs) (PL:PkL) (U:List (List UInt8)) (C':bH) (S':Refs) (PL':PkL) (U':List (List UInt8)) (u c:Nat) (s:Int) (m:ah):Prop:=
 ∃(P:Dir→Prop) (Z:List (Nat×List UInt8)),SV P (fun _=>True) Z u c s m∧∀d,P d→(∃L,RO K kf C S PL U L Z∧VwD K L C.gen Z d)∨(∃L,RO K kf C' S' PL' U' L Z∧VwD K L C'.gen Z d)

section
variable {K kf:List UInt8} {C:bH} {S:Refs} {PL:PkL} {U:List (List UInt8)} {L:List (Nm×Nat)} {Z:List (Nat×List UInt8)} {u c:Nat} {s:Int} {m:ah}
theorem RO.MB (ro:RO K kf C S PL U L Z):∀t∈L,t.1≠tN:=fun t ht=>by
 rcases ro.only t ht with h | h | ⟨q,_,h⟩<;>rw [h]
 · decide
 · exact iV (by decide) _ _
 · exact iV (by decide) _ _
theorem RO.IQ (ro:RO K kf C S PL U L Z) {x:Int} (hx:0≤x∧x≤1099511627776) (hne:C.gen≠x):∀t∈L,t.1≠aW 99 x:=fun t ht=>by
 have hb:=bh ro.chk
 rcases ro.only t ht with h | h | ⟨q,_,h⟩<;>rw [h]
 · exact iV (by decide) _ _
 · exact fun e=>hne (zY ⟨by omega,by omega⟩ hx e)
 · exact iV (by decide) _ _
theorem RO.KE (ro:RO K kf C S PL U L Z) {x:Int} (hx:cQ x=true) (hne:∀q∈PL,q.1≠x):∀t∈L,t.1≠aA x:=fun t ht=>by
 rcases ro.only t ht with h | h | ⟨q,hq,h⟩<;>rw [h]
 · exact iV (by decide) _ _
 · exact iV (by decide) _ _
 · exact fun e=>hne q hq (G8 (ro.rl.Ee q hq) hx e)
theorem jE.tidy (h:jE K kf C S PL U u c s m) (ns:List Nm) (hn:∀L Z,RO K kf C S PL U L Z→∀n∈ns,∀t∈L,t.1≠n):jE K kf C S PL U u c s (dW ns m)∧(Calm m→Calm (dW ns m)):=by
 obtain ⟨L,Z,ro,sv⟩:=h
 obtain ⟨h1,h2⟩:=GV ns sv (fun n hn' d h=>h.del (hn L Z ro n hn')) (fun n hn' d h=>h.del (hn L Z ro n hn'))
 exact ⟨⟨L,Z,ro,h1⟩,h2⟩
end

theorem Ap {next n a b:Int} (ha:0≤a) (hb:0≤b):∀ {Q:List PkD} {last:Int},iR next last (Q++ [⟨n,0,0⟩])=true→iR next last (Q++ [⟨n,a,b⟩])=true
 | [],last,h=>by
   simp only [List.nil_append,iR,Bool.and_eq_true,decide_eq_true_eq] at h ⊢
   exact ⟨⟨h.1.1,h.1.2.1,ha,hb⟩,trivial⟩
 | q::Q,last,h=>by
   simp only [List.cons_append,iR,Bool.and_eq_true,decide_eq_true_eq] at h ⊢
   exact ⟨h.1,Ap ha hb h.2⟩
theorem Fq {g x:Int} {st:iS} {sn:List cU} {Q:List PkD} {n a b:Int} (ha:0≤a) (hb:0≤b) (h:aI ⟨g,x,st,sn,Q++ [⟨n,0,0⟩]⟩=true):aI ⟨g,x,st,sn,Q++ [⟨n,a,b⟩]⟩=true:=by
 unfold aI jA at h ⊢
 simp only [Bool.and_eq_true,decide_eq_true_eq,List.length_append,List.length_singleton] at h ⊢
 exact ⟨h.1,h.2.1,h.2.2.1,Ap ha hb h.2.2.2⟩

def cG (K:List UInt8) (C:bH) (PL:PkL) (snaps:List cU) (drop:List Int) (xs:List Itm):bH:=⟨C.gen+1,if xs=[] then C.next else C.next+1,C.set,snaps,(dB PL drop C.next xs).map (oH K)⟩
section
variable {K kf:List UInt8} {C:bH} {S:Refs} {PL:PkL} {U:List (List UInt8)} {L:List (Nm×Nat)} {Z:List (Nat×List UInt8)} {u c:Nat} {s:Int} {m:ah}
theorem DO (drop:List Int) (PL:PkL):bt drop (PL.map (oH K))=(PL.filter fun q=> !drop.contains q.1).map (oH K):=by
 unfold bt
 rw [List.filter_map]
 rfl
theorem JK (drop:List Int) (PL:PkL):cr drop (PL.map (oH K))=(PL.filter fun q=>drop.contains q.1).map (oH K):=by
 unfold cr
 rw [List.filter_map]
 rfl
theorem GR {snaps:List cU} {drop:List Int} {xs:List Itm} (hp:C.aq=PL.map (oH K)) (hE:iH C snaps drop (decide (0<xs.length))=none):
   aI (cG K C PL snaps drop xs)=true∧bR C snaps drop (decide (0<xs.length))=⟨C.gen+1,if xs=[] then C.next else C.next+1,C.set,snaps,(PL.filter fun q=> !drop.contains q.1).map (oH K)++if xs=[] then [] else [⟨C.next,0,0⟩]⟩:=by
 have hx:(decide (0<xs.length)=true)↔¬xs=[]:=by rw [decide_eq_true_eq,List.length_pos_iff]
 have e:bR C snaps drop (decide (0<xs.length))=⟨C.gen+1,if xs=[] then C.next else C.next+1,C.set,snaps,(PL.filter fun q=> !drop.contains q.1).map (oH K)++if xs=[] then [] else [⟨C.next,0,0⟩]⟩:=by
   unfold bR
   rw [hp,DO]
   by_cases h0:xs=[]
   · have:decide (0<xs.length)=false:=by rw [h0];rfl
     rw [this,if_pos h0,if_pos h0];rfl
   · rw [hx.2 h0,if_neg h0,if_neg h0];rfl
 refine ⟨?_,e⟩
 unfold iH at hE
 rw [e] at hE
 have hck:aI ⟨C.gen+1,if xs=[] then C.next else C.next+1,C.set,snaps,(PL.filter fun q=> !drop.contains q.1).map (oH K)++if xs=[] then [] else [⟨C.next,0,0⟩]⟩=true:=by
   obtain ⟨c0,hc0⟩:∃c0:bH,⟨C.gen+1,if xs=[] then C.next else C.next+1,C.set,snaps,(PL.filter fun q=> !drop.contains q.1).map (oH K)++if xs=[] then [] else [⟨C.next,0,0⟩]⟩=c0:=⟨_,rfl⟩
   rw [hc0] at hE ⊢
   cases hb:aI c0 with
   | true=>rfl
   | false=>
     rw [hb] at hE
     split at hE
     · cases hE
     · split at hE
       · cases hE
       · simp at hE
 unfold cG dB
 by_cases h0:xs=[]
 · simp only [if_pos h0,List.map_append] at hck ⊢
   exact hck
 · simp only [if_neg h0,List.map_append] at hck ⊢
   exact Fq (by omega) (by omega) hck

structure ApN (K:List UInt8) (C:bH) (PL:PkL) (S:Refs) (ls:List (List UInt8)) (snaps:List cU) (drop:List Int) (B E u c:Nat) (s:Int):Prop where
 next:iH C snaps drop (decide (0<(aH K S drop ls).length))=none
 small:bY (aH K S drop ls)
 len:∀p∈ls,p.length≤67000000
 snap:∀x∈snaps,x.size≤9223372036854775807
 pack:(bf K C.next (aH K S drop ls)).length≤B
 enc:gB (cG K C PL snaps drop (aH K S drop ls))→(jq K (cG K C PL snaps drop (aH K S drop ls))).length≤E
 room:(u:Int)+B+E≤s
 cnt:c+2≤4096

theorem Jl {ls:List (List UInt8)} {snaps:List cU} {drop:List Int} {B E:Nat} (ro:RO K kf C S PL U L Z) (sv:SV (VwD K L C.gen Z) (VwD K L C.gen Z) Z u c s m) (hd:m.down=false) (hn:ApN K C PL S ls snaps drop B E u c s) {xs:List Itm} (hxs:aH K S drop ls=xs):
   Cn m (bg K (bR C snaps drop (decide (0<xs.length))) (bt drop C.aq) C.next xs m).1 (jE K kf (cG K C PL snaps drop xs) (gE (aV S drop) (aQ C.next 16 xs)) (dB PL drop C.next xs) (U++ls) (u+B+E) (c+2) s) (jE K kf C S PL U (u+B+E) (c+2) s)
       (LP K kf C S PL U (cG K C PL snaps drop xs) (gE (aV S drop) (aQ C.next 16 xs)) (dB PL drop C.next xs) (U++ls) (u+B+E) (c+2) s)∧
     ((bg K (bR C snaps drop (decide (0<xs.length))) (bt drop C.aq) C.next xs m).1.2=none→(bg K (bR C snaps drop (decide (0<xs.length))) (bt drop C.aq) C.next xs m).2=(cG K C PL snaps drop xs,aQ C.next 16 xs)):=by
 obtain ⟨hE,hs,hlen,hsnap,hB,hEn,hroom,hcnt⟩:=hn
 rw [hxs] at hE hs hB hEn
 obtain ⟨hck,hnx⟩:=GR (PL:=PL) ro.rl.aq hE
 have hbd:=bh ro.chk
 have hbd2:=bh hck
 have hgp:cQ C.next=true:=dy.2 ⟨hbd.2.1.1,hbd.2.1.2⟩
 have hnum:∀q∈PL,q.1≠C.next:=fun q hq=>by have:=ro.num hq;omega
 have hrl:RL K (cG K C PL snaps drop xs).aq (gE (aV S drop) (aQ C.next 16 xs)) (dB PL drop C.next xs) (U++ls):=by
   have:=ro.rl.next drop ls hlen hgp hnum (by rw [hxs];exact hs)
   rw [hxs] at this;exact this
 have hblen:(bf K C.next xs).length≤90000000:=uy _ _ hs
 have hcok:gB (cG K C PL snaps drop xs):=by
   refine lV hck ⟨ro.cok.poly,hsnap,fun p hp=>?_⟩
   have hp:p∈(dB PL drop C.next xs).map (oH K):=hp
   obtain ⟨q,hq,rfl⟩:=List.mem_map.1 hp
   have h1:=uy K q.1 (hrl.small q hq)
   have h2:=(hrl.small q hq).num
   exact ⟨by show ((bf K q.1 q.2).length:Int)≤_;omega,by show (q.2.length:Int)≤_;omega⟩
 replace hEn:=hEn hcok
 have hgen:(cG K C PL snaps drop xs).gen=C.gen+1:=rfl
 have hno:∀t∈L,t.1≠aW 99 (C.gen+1):=ro.IQ ⟨by omega,by rw [hgen] at hbd2;omega⟩ (by omega)
 -- what is there behind the change
 have done:∀ {L2:List (Nm×Nat)} {Z2:List (Nat×List UInt8)} {i:Nat},(∀t∈L,t∈L2)→(∀z∈Z,z∈Z2)→(i,jq K (cG K C PL snaps drop xs))∈Z2→(xs≠ []→∃j,(aA C.next,j)∈L2∧(j,bf K C.next xs)∈Z2)→
     ∃L',(∀t∈L',t∈(aW 99 (C.gen+1),i)::L2)∧RO K kf (cG K C PL snaps drop xs) (gE (aV S drop) (aQ C.next 16 xs)) (dB PL drop C.next xs) (U++ls) L' Z2:=by
   intro L2 Z2 i hL hZ hi hj
   refine ⟨((aW 99 (C.gen+1),i)::L2).filter fun t=>decide (t.1=dL)||(decide (t.1=aW 99 (C.gen+1))||(dB PL drop C.next xs).any fun q=>t.1==aA q.1),fun t ht=>(List.mem_filter.1 ht).1,⟨hrl,?_,⟨i,by rw [hgen];exact List.mem_filter.2 ⟨List.mem_cons_self ..,by simp⟩,hi⟩,fun q hq=>?_,fun t ht=>?_,hck,hcok⟩⟩
   · obtain ⟨j,h1,h2⟩:=ro.key
     exact ⟨j,List.mem_filter.2 ⟨List.mem_cons_of_mem _ (hL _ h1),by simp⟩,hZ _ h2⟩
   · have keep:∀j,(aA q.1,j)∈L2→(aA q.1,j)∈((aW 99 (C.gen+1),i)::L2).filter fun t=>decide (t.1=dL)||(decide (t.1=aW 99 (C.gen+1))||(dB PL drop C.next xs).any fun q=>t.1==aA q.1):=fun j hj=>by
       refine List.mem_filter.2 ⟨List.mem_cons_of_mem _ hj,?_⟩
       have:((dB PL drop C.next xs).any fun x=>aA q.1==aA x.1)=true:=List.any_eq_true.2 ⟨q,hq,by simp⟩
       rw [this];simp
     rcases List.mem_append.1 hq with hq' | hq'
     · obtain ⟨j,h1,h2⟩:=ro.pk q (List.mem_filter.1 hq').1
       exact ⟨j,keep j (hL _ h1),hZ _ h2⟩
     · split at hq'
       · cases hq'
       · rename_i hne
         obtain ⟨j,h1,h2⟩:=hj hne
         have:q=(C.next,xs):=by simpa using hq'
         rw [this] at keep ⊢
         exact ⟨j,keep j h1,h2⟩
   · have h2:=(List.mem_filter.1 ht).2
     simp only [Bool.or_eq_true,decide_eq_true_eq,List.any_eq_true,beq_iff_eq] at h2
     exact h2
 -- the commit, out of what is seen ahead of it
 have commit:∀ {L2:List (Nm×Nat)} {Z1:List (Nat×List UInt8)} {u1 c1:Nat} {m1:ah},SV (VwD K L C.gen Z1) (VwD K L2 C.gen Z1) Z1 u1 c1 s m1→m1.down=false→(∀t∈L,t∈L2)→(∀t∈L2,t.1≠tN)→(∀t∈L2,t.1≠aW 99 (C.gen+1))→(∀z∈Z,z∈Z1)→(xs≠ []→∃j,(aA C.next,j)∈L2∧(j,bf K C.next xs)∈Z1)→u1≤u+B→c1≤c+1→
     Cn m1 (aX K (cG K C PL snaps drop xs) m1) (jE K kf (cG K C PL snaps drop xs) (gE (aV S drop) (aQ C.next 16 xs)) (dB PL drop C.next xs) (U++ls) (u+B+E) (c+2) s) (jE K kf C S PL U (u+B+E) (c+2) s)
       (LP K kf C S PL U (cG K C PL snaps drop xs) (gE (aV S drop) (aQ C.next 16 xs)) (dB PL drop C.next xs) (U++ls) (u+B+E) (c+2) s):=by
   intro L2 Z1 u1 c1 m1 h1 hd1 hLL ht hcn hz hj hu hc1
   have h:=Ac (C:=cG K C PL snaps drop xs) h1 hd1 hLL hgen hck hcok ht hcn (by omega) (by omega)
   refine (h.imp (fun m' q=>?_) (fun m' q=>?_) (fun m' q=>?_)).cn
   · obtain ⟨L',hL',ro'⟩:=done (L2:=L2) (Z2:=(m1.files.length,jq K (cG K C PL snaps drop xs))::Z1) (i:=m1.files.length) hLL (fun z hz'=>List.mem_cons_of_mem _ (hz z hz')) (List.mem_cons_self ..) (fun hne=>let ⟨j,a,b⟩:=hj hne;⟨j,a,List.mem_cons_of_mem _ b⟩)
     exact ⟨L',_,ro',q.imp (fun d h=>h.sub hL' (Int.le_refl _) (fun _ h=>h)) (fun d h=>h.sub hL' (Int.le_refl _) (fun _ h=>h)) (by omega) (by omega)⟩
   · obtain ⟨Z',hz',q⟩:=q
     exact ⟨L,Z',ro.zs fun z h=>hz' _ (hz z h),q.imp (fun _ h=>h) (fun d h=>h.sub hLL (Int.le_refl _) (fun _ h=>h)) (by omega) (by omega)⟩
   · obtain ⟨Z',hz',q⟩:=q
     refine ⟨_,Z',q.imp (fun _ h=>h) (fun _ h=>h) (by omega) (by omega),fun d hd=>?_⟩
     rcases hd with hd | ⟨hi,hd⟩
     · exact .inl ⟨L,ro.zs (fun z h=>hz' _ (hz z h)),hd⟩
     · obtain ⟨L',hL',ro'⟩:=done (L2:=L2) (Z2:=Z') (i:=m1.files.length) hLL (fun z h=>hz' _ (hz z h)) hi (fun hne=>let ⟨j,a,b⟩:=hj hne;⟨j,a,hz' _ b⟩)
       exact .inr ⟨L',ro',hd.sub hL' (Int.le_refl _) (fun _ h=>h)⟩
 by_cases h0:xs=[]
 · have e1:bR C snaps drop (decide (0<xs.length))=cG K C PL snaps drop xs:=by
     rw [hnx]
     unfold cG dB
     simp only [if_pos h0,List.map_append]
     rfl
   have e2:bg K (bR C snaps drop (decide (0<xs.length))) (bt drop C.aq) C.next xs m=(aX K (cG K C PL snaps drop xs) m,cG K C PL snaps drop xs,[]):=by
     rw [e1];unfold bg;rw [if_pos h0]
   rw [e2]
   exact ⟨commit sv hd (fun _ h=>h) ro.MB hno (fun _ h=>h) (fun hne=>absurd h0 hne) (by omega) (by omega),fun _=>by rw [h0];rfl⟩
 · have e1:fO (bR C snaps drop (decide (0<xs.length))) (bt drop C.aq) ⟨C.next,((bf K C.next xs).length:Int),(xs.length:Int)⟩=cG K C PL snaps drop xs:=by
     rw [hnx,ro.rl.aq,DO]
     unfold fO cG dB
     simp only [if_neg h0,List.map_append]
     rfl
   have e2:(bg K (bR C snaps drop (decide (0<xs.length))) (bt drop C.aq) C.next xs m).1=aR (aZ (aA C.next) m) fun m=>aR (svA K C.next xs m) fun m=>aX K (cG K C PL snaps drop xs) m:=by
     unfold bg
     rw [if_neg h0,e1]
     unfold aR
     cases (aZ (aA C.next) m).2 with
     | some e=>rfl
     | none=>simp only;cases (svA K C.next xs (aZ (aA C.next) m).1).2<;>rfl
   have e3:(bg K (bR C snaps drop (decide (0<xs.length))) (bt drop C.aq) C.next xs m).1.2=none→(bg K (bR C snaps drop (decide (0<xs.length))) (bt drop C.aq) C.next xs m).2=(cG K C PL snaps drop xs,aQ C.next 16 xs):=by
     unfold bg
     rw [if_neg h0,e1]
     cases (aZ (aA C.next) m).2 with
     | some e=>intro h;cases h
     | none=>cases (svA K C.next xs (aZ (aA C.next) m).1).2 with
       | some e=>intro h;cases h
       | none=>exact fun _=>rfl
   rw [e2]
   rw [e2] at e3
   have hnp:=ro.KE hgp hnum
   have wide:∀ {u' c':Nat} {Z':List (Nat×List UInt8)} {m':ah},(∀z∈Z,z∈Z')→SV (VwD K L C.gen Z) (VwD K L C.gen Z) Z' u' c' s m'→u'≤u+B+E→c'≤c+2→jE K kf C S PL U (u+B+E) (c+2) s m':=fun hz h hu hc=>
     ⟨L,_,ro.zs hz,h.imp (fun d h=>h.sub (fun _ h=>h) (Int.le_refl _) hz) (fun d h=>h.sub (fun _ h=>h) (Int.le_refl _) hz) hu hc⟩
   have torn:∀ {m':ah},jE K kf C S PL U (u+B+E) (c+2) s m'→LP K kf C S PL U (cG K C PL snaps drop xs) (gE (aV S drop) (aQ C.next 16 xs)) (dB PL drop C.next xs) (U++ls) (u+B+E) (c+2) s m':=fun ⟨L,Z,ro,sv⟩=>
     ⟨_,Z,sv.imp (fun _ h=>h) (fun _ _=>trivial) (Nat.le_refl _) (Nat.le_refl _),fun d h=>.inl ⟨L,ro,h⟩⟩
   refine ⟨Cn.then (Q:=fun m1=>SV (VwD K L C.gen Z) (VwD K L C.gen Z) Z u c s m1∧findD m1.now (aA C.next)=none) ?_ fun m1 ⟨q1,f1⟩ hd1=>?_,e3⟩
   · exact (Hr.cm ((yf sv hd (sv.now.del hnp) (sv.cur.del hnp)).imp (fun _ h=>⟨h.1,h.2.1⟩) (fun _ h=>h)) (fun _ h=>wide (fun _ h=>h) h (by omega) (by omega)) (fun _ h=>torn (wide (fun _ h=>h) h (by omega) (by omega)))).cn
   have e4:svA K C.next xs m1=fS m1 (aA C.next) (dH K C.next xs):=by unfold svA;rw [if_pos hgp]
   have e5:(dH K C.next xs).flatten=bf K C.next xs:=rfl
   rw [e4]
   have hins:=q1.cur.ins q1.wf.dV.asc hnp (pO (by decide) _) m1.files.length
   have hfind:findD (ep Ent.name m1.now ⟨aA C.next,m1.files.length⟩) (aA C.next)=some ⟨aA C.next,m1.files.length⟩:=by
     show dw Ent.name _ _=_
     rw [gF q1.wf.dV.asc];simp
   have hsv:=K4 (ps:=dH K C.next xs) (W':=VwD K ((aA C.next,m1.files.length)::L) C.gen Z) q1 hd1 (IF hgp) f1 (by omega) (by rw [e5];omega) (q1.now.ins q1.wf.dV.asc hnp (pO (by decide) _) _) (hins.add hfind) (fun d h=>h.sub (fun t ht=>List.mem_cons_of_mem _ ht) (Int.le_refl _) (fun _ h=>h))
   rw [e5] at hsv
   refine Cn.then (Q:=fun m2=>SV (VwD K L C.gen ((m1.files.length,bf K C.next xs)::Z)) (VwD K ((aA C.next,m1.files.length)::L) C.gen ((m1.files.length,bf K C.next xs)::Z)) ((m1.files.length,bf K C.next xs)::Z) (u+(bf K C.next xs).length) (c+1) s m2) ?_ fun m2 q2 hd2=>?_
   · refine (Hr.cm (hsv.imp (fun m2 ⟨h,_⟩=>h.imp (fun d h=>h.sub (fun _ h=>h) (Int.le_refl _) fun z hz=>List.mem_cons_of_mem _ hz) (fun d h=>h.sub (fun _ h=>h) (Int.le_refl _) fun z hz=>List.mem_cons_of_mem _ hz) (Nat.le_refl _) (Nat.le_refl _)) (fun _ h=>h)) (fun _ h=>?_) (fun _ h=>torn ?_)).cn
     · exact wide (fun _ h=>h) h (by omega) (by omega)
     · exact wide (fun _ h=>h) h (by omega) (by omega)
   refine commit q2 hd2 (fun t ht=>List.mem_cons_of_mem _ ht) (fun t ht=>?_) (fun t ht=>?_) (fun z hz=>List.mem_cons_of_mem _ hz) (fun _=>⟨m1.files.length,List.mem_cons_self ..,List.mem_cons_self ..⟩) (by omega) (by omega)
   · rcases List.mem_cons.1 ht with rfl | ht
     · exact iV (by decide) _ _
     · exact ro.MB t ht
   · rcases List.mem_cons.1 ht with rfl | ht
     · exact iV (by decide) _ _
     · exact hno t ht

structure ApO (K kf:List UInt8) (C:bH) (S:Refs) (PL:PkL) (U:List (List UInt8)) (C':bH) (S':Refs) (PL':PkL) (U':List (List UInt8)) (u c:Nat) (s:Int) (m:ah) (a:(ah×Option Int)×gx):Prop where
 er:a.1.2=none∨a.1.2=some 2∨a.1.2=some 1∨a.1.2=some 22
 ok:a.1.2=none→a.2=⟨K,C',S',false⟩∧jE K kf C' S' PL' U' u c s a.1.1
 io:a.1.2=some 2→a.2=⟨K,C,S,false⟩∧jE K kf C S PL U u c s a.1.1
 dn:a.1.2=some 1∨a.1.2=some 22→LP K kf C S PL U C' S' PL' U' u c s a.1.1
 calm:Calm m→a.1.2=none∧Calm a.1.1
theorem Ii {ls:List (List UInt8)} {snaps:List cU} {drop:List Int} {B E:Nat} (hh:jE K kf C S PL U u c s m) (hd:m.down=false) (hn:ApN K C PL S ls snaps drop B E u c s) {xs:List Itm} (hxs:aH K S drop ls=xs):
   ApO K kf C S PL U (cG K C PL snaps drop xs) (gE (aV S drop) (aQ C.next 16 xs)) (dB PL drop C.next xs) (U++ls) (u+B+E) (c+2) s m (cB ⟨K,C,S,false⟩ m ls snaps drop):=by
 obtain ⟨L,Z,ro,sv⟩:=hh
 obtain ⟨hcm,hres⟩:=Jl ro sv hd hn hxs
 obtain ⟨W,hW⟩:∃W,bg K (bR C snaps drop (decide (0<xs.length))) (bt drop C.aq) C.next xs m=W:=⟨_,rfl⟩
 have hE:=hn.next
 rw [hxs] at hE
 have hap:cB ⟨K,C,S,false⟩ m ls snaps drop=(match W.1.2 with
     | some e=>(((dP ⟨K,C,S,false⟩ W.1.1 e (decide (0<xs.length))).1,some e),(dP ⟨K,C,S,false⟩ W.1.1 e (decide (0<xs.length))).2)
     | none=>((dW (aW 99 C.gen::(cr drop C.aq).map fun p=>aA p.num) W.1.1,none),⟨K,W.2.1,gE (aV S drop) W.2.2,false⟩)):=by
   unfold cB
   rw [show kj ⟨K,C,S,false⟩ m=none by unfold kj;rw [hd];rfl]
   simp only
   rw [hxs,hE,hW]
   all_goals rfl
 rw [hW] at hcm hres
 rw [hap]
 obtain ⟨hck,_⟩:=GR (PL:=PL) ro.rl.aq hE
 have hbd:=bh ro.chk
 have hbd2:=bh hck
 have hgp:cQ C.next=true:=dy.2 ⟨hbd.2.1.1,hbd.2.1.2⟩
 have hnum:∀q∈PL,q.1≠C.next:=fun q hq=>by have:=ro.num hq;omega
 rcases hcm.er with he | he | he | he
 · obtain ⟨q,_⟩:=hcm.ok he
   rw [he]
   simp only
   rw [hres he]
   obtain ⟨h1,h2⟩:=q.tidy (aW 99 C.gen::(cr drop C.aq).map fun p=>aA p.num) fun L' Z' ro' n hn'=>by
     rcases List.mem_cons.1 hn' with rfl | hn'
     · exact ro'.IQ ⟨by omega,by omega⟩ (by show C.gen+1≠C.gen;omega)
     · obtain ⟨p,hp,rfl⟩:=List.mem_map.1 hn'
       rw [ro.rl.aq,JK] at hp
       obtain ⟨q0,hq0,rfl⟩:=List.mem_map.1 hp
       obtain ⟨hq1,hq2⟩:=List.mem_filter.1 hq0
       refine ro'.KE (ro.rl.Ee q0 hq1) fun q' hq'=>?_
       rcases List.mem_append.1 hq' with h | h
       · have h3:=(List.mem_filter.1 h).2
         intro e
         have h3:(!drop.contains q'.1)=true:=h3
         have e:q'.1=q0.1:=e
         rw [e,hq2] at h3
         cases h3
       · split at h
         · cases h
         · have:q'=(C.next,xs):=by simpa using h
           rw [this]
           exact fun e=>hnum q0 hq1 e.symm
   exact ⟨.inl rfl,fun _=>⟨rfl,h1⟩,fun h=>(by cases h),fun h=>(by rcases h with h | h<;>cases h),fun hc=>⟨rfl,h2 (hcm.calm hc).2⟩⟩
 · obtain ⟨q,_⟩:=hcm.io he
   rw [he]
   simp only
   unfold dP
   rw [if_neg (by decide)]
   refine ⟨.inr (.inl rfl),fun h=>(by cases h),fun _=>⟨rfl,?_⟩,fun h=>(by rcases h with h | h<;>cases h),fun hc=>by have:=(hcm.calm hc).1;rw [he] at this;cases this⟩
   have t1:∀ {m':ah},jE K kf C S PL U (u+B+E) (c+2) s m'→jE K kf C S PL U (u+B+E) (c+2) s (dW [tN] m'):=fun h=>(h.tidy [tN] fun L' Z' ro' n hn'=>by
     rw [List.mem_singleton.1 hn'];exact ro'.MB).1
   refine t1 ?_
   show jE K kf C S PL U _ _ _ (if _ then dW [aA C.next] _ else _)
   split
   · exact (q.tidy [aA C.next] fun L' Z' ro' n hn'=>by
       rw [List.mem_singleton.1 hn']
       exact ro'.KE hgp hnum).1
   · exact q
 · obtain ⟨q,_⟩:=hcm.dn he
   rw [he]
   simp only
   unfold dP
   rw [if_pos (by decide)]
   exact ⟨.inr (.inr (.inl rfl)),fun h=>(by cases h),fun h=>(by cases h),fun _=>q,fun hc=>by have:=(hcm.calm hc).1;rw [he] at this;cases this⟩
 · have q:=hcm.dd he
   rw [he]
   simp only
   unfold dP
   rw [if_pos (by decide)]
   exact ⟨.inr (.inr (.inr rfl)),fun h=>(by cases h),fun h=>(by cases h),fun _=>q,fun hc=>by have:=(hcm.calm hc).1;rw [he] at this;cases this⟩
end

end Go.Proofs.YtpmhjnhgpplmnaaGreatDoor
end

section
namespace Go.Proofs.YtpmhjnhgpplmnaaGreatDoor
open Go Sx
set_option maxRecDepth 8000

theorem M3 (K:List UInt8) {s:Int} (h:0≤s∧s≤67108864):SV (VwD K [] 0 []) (VwD K [] 0 []) [] 0 0 s (jG s):=by
 have e:∀k,replay (jG s).syn ((jG s).chs.take k)=[]:=fun k=>by show replay [] ([].take k)=[];rw [List.take_nil];rfl
 have v:VwD K [] 0 [] []:=⟨fun t ht=>(by cases ht),fun e he=>by cases he⟩
 exact ⟨Gv h,fun z hz=>(by cases hz),fun k=>by rw [e];exact v,v,fun k=>by rw [e];exact ⟨Nat.le_refl _,Nat.le_refl _⟩,rfl⟩
theorem Jk (s:Int):Calm (jG s):=⟨rfl,rfl,rfl⟩

def fJ (st:iS):bH:=⟨1,0,st,[],[]⟩
theorem JR (pw salt ms:List UInt8) {st:iS} (hset:bO st=true) (hpo:st.poly<18446744073709551616) {s:Int} (hs0:s≤67108864) (hs:((iw pw salt ms).length:Int)+(jq (bD ms) (fJ st)).length≤s):
   (jC pw salt ms st (jG s)).2=none∧Calm (jC pw salt ms st (jG s)).1∧(jC pw salt ms st (jG s)).1.steps=9∧
     jE (bD ms) (iw pw salt ms) (fJ st) [] [] [] ((iw pw salt ms).length+(jq (bD ms) (fJ st)).length) 2 s (jC pw salt ms st (jG s)).1:=by
 obtain ⟨K,hK⟩:∃K,bD ms=K:=⟨_,rfl⟩
 obtain ⟨kf,hkf⟩:∃kf,iw pw salt ms=kf:=⟨_,rfl⟩
 rw [hK,hkf] at hs ⊢
 have hck:aI (fJ st)=true:=qR hset
 have hok:gB (fJ st):=lV hck ⟨hpo,by simp [fJ],by simp [fJ]⟩
 have e0:jC pw salt ms st (jG s)=aR (aN (jG s) dL) fun m=>aR (aP m dL [kf]) fun m=>aR (cW m dL) fun m=>aX K (fJ st) m:=by
   unfold jC;rw [hkf,hK];rfl
 rw [e0]
 have sv:=M3 K (s:=s) ⟨by omega,hs0⟩
 have ha:gK Ent.name (jG s).now:=sv.wf.dV.asc
 have hc0:=ud (n:=dL) (W':=fun d=>VwD K [(dL,0)] 0 [] d∧findD d tN=none) sv rfl (by decide) rfl (by decide) (sv.now.ins ha (fun t ht=>by cases ht) (pO (by decide) _) _)
   ⟨(sv.cur.ins ha (fun t ht=>by cases ht) (pO (by decide) _) _).add (by
     show dw Ent.name (ep Ent.name [] _) _=_
     rw [gF List.Pairwise.nil];rfl),by
     show dw Ent.name (ep Ent.name [] _) tN=none
     rw [gF List.Pairwise.nil];rfl⟩
 have el:(jG s).files.length=0:=rfl
 rw [el] at hc0
 have hh:Cm (1+(1+(1+(0+5+1)))) (jG s) (aR (aN (jG s) dL) fun m=>aR (aP m dL [kf]) fun m=>aR (cW m dL) fun m=>aX K (fJ st) m)
     (jE K kf (fJ st) [] [] [] (kf.length+(jq K (fJ st)).length) 2 s) (fun _=>True) (fun _=>True):=by
   refine Cm.then (hc0.cm (fun _ _=>trivial) (fun _ _=>trivial)) fun m1 ⟨q1,f1,a1⟩ hd1=>?_
   have h2:=u0 (ps:=[kf]) q1 hd1 f1 a1 (fun z hz=>by cases hz) (by simp;omega)
   refine Cm.then (h2.cm (fun _ _=>trivial) (fun _ _=>trivial)) fun m2 ⟨q2,f2,a2⟩ hd2=>?_
   refine Cm.then ((BV q2 hd2 f2 a2).cm (fun _ _=>trivial) (fun _ _=>trivial)) fun m3 ⟨q3,f3,a3⟩ hd3=>?_
   have ek:([]++ [kf].flatten:List UInt8)=kf:=by simp
   rw [ek] at a3
   have el3:0<m3.files.length:=(iW q3.wf f3).2.2.1
   have q4:=(q3.MQ (iW q3.wf f3).2.2.1 a3).imp (P':=VwD K [] 0 [(0,kf)]) (W':=VwD K [(dL,0)] 0 [(0,kf)]) (u':=kf.length) (c':=1) (fun d h=>h.sub (fun _ h=>h) (Int.le_refl _) (fun z hz=>by cases hz)) (fun d h=>h.1.sub (fun _ h=>h) (Int.le_refl _) (fun z hz=>by cases hz)) (by simp) (by omega)
   have hno:yC m3 tN=0:=by unfold yC;rw [Ad,q3.cur.2];rfl
   have hc:=Ac (g:=0) (C:=fJ st) q4 hd3 (fun t ht=>by cases ht) rfl hck hok (fun t ht=>by simp at ht;rw [ht];decide) (fun t ht=>by simp at ht;rw [ht];exact iV (by decide) _ _) (by omega) hs
   rw [hno] at hc
   refine hc.imp (fun m' q=>⟨[(aW 99 1,m3.files.length),(dL,0)],_,⟨⟨rfl,by simp,List.Pairwise.nil,by simp,by simp,List.Pairwise.nil,List.Perm.refl _,by simp⟩,⟨0,by simp,by simp⟩,⟨m3.files.length,by simp [fJ],by simp⟩,by simp,fun t ht=>?_,hck,hok⟩,q⟩) (fun _ _=>trivial) (fun _ _=>trivial)
   simp at ht
   rcases ht with rfl | rfl
   · exact .inr (.inl rfl)
   · exact .inl rfl
 obtain ⟨h1,h2,h3⟩:=hh.calm (Jk s)
 exact ⟨h1,h2,by rw [h3];rfl,(hh.ok h1).1⟩
end Go.Proofs.YtpmhjnhgpplmnaaGreatDoor
end

section
namespace Go.Proofs.YtpmhjnhgpplmnaaGreatDoor
open Go Sx
set_option maxRecDepth 8000

theorem BI (K:List UInt8) {C:bH} (h:gB C):(jq K C).length≤200+100*C.snaps.length+27*C.aq.length:=by
 have hp:=Aq h
 have h1:=lq (f:=ny) (k:=100) fun s hs=>pP (h.snaps s hs)
 have h2:=lq (f:=pkB) (k:=27) fun p hp=>Bx (h.aq p hp)
 have a1:=dQ h.set.1
 have a2:=dQ h.set.2.1
 have a3:=dQ h.set.2.2.1
 have a4:=dQ h.set.2.2.2
 have b1:=h.sn
 have b2:=h.pn
 have a5:=dQ (z:=(C.snaps.length:Int)) ⟨by omega,by omega⟩
 have a6:=dQ (z:=(C.aq.length:Int)) ⟨by omega,by omega⟩
 rw [jq,fQ _ _ _ _ (by omega)]
 simp only [mC,dr,cO,List.map_cons,List.map_nil,List.flatten_cons,List.flatten_nil,List.append_nil,List.length_append,j8]
 omega
theorem Ak:∀ {xs:List Itm},(∀x∈xs,x.1.length=32∧x.2.length≤67108832)→(xs.map dK).flatten.length≤42*xs.length+(xs.map fun x=>x.2.length).sum
 | [],_=>by simp
 | x::xs,h=>by
   have h0:=h x (by simp)
   have:=(sD x h0.1 h0.2).2
   have ih:=Ak (xs:=xs) fun y hy=>h y (by simp [hy])
   simp only [List.map_cons,List.flatten_cons,List.length_append,List.length_cons,List.sum_cons]
   omega
theorem Ab (K:List UInt8) (num:Int) {xs:List Itm} (h:bY xs):(bf K num xs).length≤80+90*xs.length+(xs.map fun x=>x.2.length).sum:=by
 have hn:=h.num
 have h1:=Ak (xs:=xs) fun x hx=>⟨h.idl x hx,by have:=h.iD hx;omega⟩
 have h2:(eZ (aQ num 16 xs)).length=48*xs.length:=by rw [gP,fo]
 have h3:(dD K 3 (fu (n64 num)) (eZ (aQ num 16 xs))).length=48*xs.length+45:=by rw [fQ _ _ _ _ (by omega),h2]
 have h4:(fR K num (aQ num 16 xs)).length≤48*xs.length+45+10:=by
   unfold fR ko
   have:=eY 9 (dD K 3 (fu (n64 num)) (eZ (aQ num 16 xs))).length (by rw [h3];omega) (by decide)
   simp only [List.length_cons,List.length_append]
   omega
 rw [vn]
 simp only [List.length_append,jN]
 omega

theorem zW (K:List UInt8) (S:Refs) (drop:List Int):∀(ls:List (List UInt8)) (st:List Itm×List (List UInt8)),(∀p∈ls,p.length≤67000000)→
   ((ls.foldl (bL K S drop) st).1.map fun x=>x.2.length).sum≤(st.1.map fun x=>x.2.length).sum+(ls.map fun p=>p.length+45).sum
 | [],st,_=>by simp
 | p::ls,st,h=>by
   have hp:=h p (by simp)
   have ih:=zW K S drop ls (bL K S drop st p) fun q hq=>h q (by simp [hq])
   rw [List.foldl_cons]
   refine Nat.le_trans ih ?_
   have h1:((bL K S drop st p).1.map fun x=>x.2.length).sum≤(st.1.map fun x=>x.2.length).sum+(p.length+45):=by
     unfold bL
     split
     · omega
     · simp only [List.map_append,List.sum_append,List.map_cons,List.map_nil,List.sum_cons,List.sum_nil]
       rw [fQ _ _ _ _ (by omega)]
       omega
   simp only [List.map_cons,List.sum_cons]
   omega
theorem vM (K:List UInt8) (S:Refs) (drop:List Int) {ls:List (List UInt8)} (hl:ls.length≤4096) {t:Nat} (hs:(ls.map fun p=>p.length+45).sum≤t) (ht:t≤16777216) (hp:∀p∈ls,p.length≤67000000):
   bY (aH K S drop ls)∧(aH K S drop ls).length≤ls.length∧((aH K S drop ls).map fun x=>x.2.length).sum≤t:=by
 have h1:=(wT K S drop ls).1
 have h2:=zW K S drop ls ([],[]) hp
 have hf:=kB K S drop ls
 simp only [List.map_nil,List.sum_nil,Nat.zero_add] at h2
 have h2:((aH K S drop ls).map fun x=>x.2.length).sum≤(ls.map fun p=>p.length+45).sum:=h2
 have h1:(aH K S drop ls).length≤ls.length:=h1
 refine ⟨⟨by omega,fun x hx=>?_,by omega⟩,h1,by omega⟩
 obtain ⟨p,_,rfl,_⟩:=hf.src x hx
 simp [HJ,idF]

section
variable {K kf:List UInt8} {C:bH} {S:Refs} {PL:PkL} {U:List (List UInt8)} {L:List (Nm×Nat)} {Z:List (Nat×List UInt8)} {u c:Nat} {s:Int} {m:ah}
theorem mH {ls:List (List UInt8)} {snaps:List cU} {drop:List Int} {B E:Nat} (hh:jE K kf C S PL U u c s m) (hc:Calm m) (hn:ApN K C PL S ls snaps drop B E u c s) {xs:List Itm} (hxs:aH K S drop ls=xs):
   (cB ⟨K,C,S,false⟩ m ls snaps drop).1.2=none∧(cB ⟨K,C,S,false⟩ m ls snaps drop).2=⟨K,cG K C PL snaps drop xs,gE (aV S drop) (aQ C.next 16 xs),false⟩∧Calm (cB ⟨K,C,S,false⟩ m ls snaps drop).1.1∧
     jE K kf (cG K C PL snaps drop xs) (gE (aV S drop) (aQ C.next 16 xs)) (dB PL drop C.next xs) (U++ls) (u+B+E) (c+2) s (cB ⟨K,C,S,false⟩ m ls snaps drop).1.1:=by
 have h:=Ii hh hc.d hn hxs
 obtain ⟨h1,h2⟩:=h.calm hc
 exact ⟨h1,(h.ok h1).1,h2,(h.ok h1).2⟩
theorem jE.get (h:jE K kf C S PL U u c s m) (hd:m.down=false) {id:List UInt8} (hx:∃x∈S,x.id=id):∃p∈U,idF K p=id∧getM ⟨K,C,S,false⟩ m id=(none,p):=by
 obtain ⟨L,Z,ro,sv⟩:=h
 exact F6 ro sv hd hx
end

end Go.Proofs.YtpmhjnhgpplmnaaGreatDoor
end

section
namespace Go.Proofs.YtpmhjnhgpplmnaaGreatDoor
open Go Sx
set_option maxRecDepth 8000
set_option maxRecDepth 100000

theorem MK:dI ((iC [97,109,112,104,111,114,97]).map (· ^^^0x36)++ [0,0,0,0,0,0,0,0,0,0,0,0,0,0,0,0,0,0,0,0,0,0,0,0,0,0,0,0,0,0,0,0])=[65,242,217,117,182,129,77,157,215,138,19,17,116,216,109,90,102,61,46,124,114,62,120,50,37,128,242,0,3,150,40,31]:=by kernel_rfl
theorem Na:dI ((iC [97,109,112,104,111,114,97]).map (· ^^^0x5c)++ [65,242,217,117,182,129,77,157,215,138,19,17,116,216,109,90,102,61,46,124,114,62,120,50,37,128,242,0,3,150,40,31])=[129,106,226,39,217,136,16,164,180,168,13,188,145,244,89,81,119,28,222,246,48,109,150,2,75,137,132,209,6,73,109,10]:=by kernel_rfl
theorem OA:dx [97,109,112,104,111,114,97] [0,0,0,0,0,0,0,0,0,0,0,0,0,0,0,0,0,0,0,0,0,0,0,0,0,0,0,0,0,0,0,0]=[129,106,226,39,217,136,16,164,180,168,13,188,145,244,89,81,119,28,222,246,48,109,150,2,75,137,132,209,6,73,109,10]:=by rw [dx,MK,Na]
theorem M8:dI ((iC [129,106,226,39,217,136,16,164,180,168,13,188,145,244,89,81,119,28,222,246,48,109,150,2,75,137,132,209,6,73,109,10]).map (· ^^^0x36)++ [110,97,109,101,1])=[22,139,4,161,31,59,184,132,40,238,176,20,103,218,216,163,83,213,214,119,238,40,166,160,156,32,212,68,85,138,63,118]:=by kernel_rfl
theorem Mh:dI ((iC [129,106,226,39,217,136,16,164,180,168,13,188,145,244,89,81,119,28,222,246,48,109,150,2,75,137,132,209,6,73,109,10]).map (· ^^^0x5c)++ [22,139,4,161,31,59,184,132,40,238,176,20,103,218,216,163,83,213,214,119,238,40,166,160,156,32,212,68,85,138,63,118])=[7,139,77,61,47,22,65,103,17,8,176,127,153,15,20,246,109,235,124,164,0,98,133,2,247,161,189,165,33,209,36,24]:=by kernel_rfl
theorem O9:dx [129,106,226,39,217,136,16,164,180,168,13,188,145,244,89,81,119,28,222,246,48,109,150,2,75,137,132,209,6,73,109,10] [110,97,109,101,1]=[7,139,77,61,47,22,65,103,17,8,176,127,153,15,20,246,109,235,124,164,0,98,133,2,247,161,189,165,33,209,36,24]:=by rw [dx,M8,Mh]
theorem Mb:dI ((iC [7,139,77,61,47,22,65,103,17,8,176,127,153,15,20,246,109,235,124,164,0,98,133,2,247,161,189,165,33,209,36,24]).map (· ^^^0x36)++ [5,99,104,117,110,107,1,120])=[171,52,144,58,196,177,39,209,208,70,35,84,76,248,243,22,189,248,95,154,185,107,32,228,19,131,169,243,251,152,69,81]:=by kernel_rfl
theorem MU:dI ((iC [7,139,77,61,47,22,65,103,17,8,176,127,153,15,20,246,109,235,124,164,0,98,133,2,247,161,189,165,33,209,36,24]).map (· ^^^0x5c)++ [171,52,144,58,196,177,39,209,208,70,35,84,76,248,243,22,189,248,95,154,185,107,32,228,19,131,169,243,251,152,69,81])=[245,254,199,224,181,16,60,4,191,101,254,34,69,192,159,100,28,158,7,228,78,108,243,135,28,33,254,26,11,31,177,188]:=by kernel_rfl
theorem ON:dx [7,139,77,61,47,22,65,103,17,8,176,127,153,15,20,246,109,235,124,164,0,98,133,2,247,161,189,165,33,209,36,24] [5,99,104,117,110,107,1,120]=[245,254,199,224,181,16,60,4,191,101,254,34,69,192,159,100,28,158,7,228,78,108,243,135,28,33,254,26,11,31,177,188]:=by rw [dx,Mb,MU]
theorem MA:dI ((iC [7,139,77,61,47,22,65,103,17,8,176,127,153,15,20,246,109,235,124,164,0,98,133,2,247,161,189,165,33,209,36,24]).map (· ^^^0x36)++ [5,99,104,117,110,107,1,121])=[28,155,17,157,88,166,252,125,248,249,153,32,184,172,42,60,210,154,50,207,156,169,117,185,253,190,185,1,37,201,66,237]:=by kernel_rfl
theorem MN:dI ((iC [7,139,77,61,47,22,65,103,17,8,176,127,153,15,20,246,109,235,124,164,0,98,133,2,247,161,189,165,33,209,36,24]).map (· ^^^0x5c)++ [28,155,17,157,88,166,252,125,248,249,153,32,184,172,42,60,210,154,50,207,156,169,117,185,253,190,185,1,37,201,66,237])=[128,146,41,163,209,215,6,198,115,241,6,122,23,250,45,179,65,181,116,27,179,143,208,73,72,196,167,220,87,3,255,7]:=by kernel_rfl
theorem Oq:dx [7,139,77,61,47,22,65,103,17,8,176,127,153,15,20,246,109,235,124,164,0,98,133,2,247,161,189,165,33,209,36,24] [5,99,104,117,110,107,1,121]=[128,146,41,163,209,215,6,198,115,241,6,122,23,250,45,179,65,181,116,27,179,143,208,73,72,196,167,220,87,3,255,7]:=by rw [dx,MA,MN]

def iG:List UInt8:=[0,0,0,0,0,0,0,0,0,0,0,0,0,0,0,0,0,0,0,0,0,0,0,0,0,0,0,0,0,0,0,0]
theorem wZ:lE (bD iG)=[7,139,77,61,47,22,65,103,17,8,176,127,153,15,20,246,109,235,124,164,0,98,133,2,247,161,189,165,33,209,36,24]:=by
 have h1:ji nW iG [110,97,109,101]=[7,139,77,61,47,22,65,103,17,8,176,127,153,15,20,246,109,235,124,164,0,98,133,2,247,161,189,165,33,209,36,24]:=by
   rw [Ix]
   have:dx nW iG=[129,106,226,39,217,136,16,164,180,168,13,188,145,244,89,81,119,28,222,246,48,109,150,2,75,137,132,209,6,73,109,10]:=OA
   rw [this]
   exact O9
 rw [lE,bD,List.drop_left' (by simp),List.take_of_length_le (by simp),h1]
theorem Hs:idF (bD iG) [120]=[245,254,199,224,181,16,60,4,191,101,254,34,69,192,159,100,28,158,7,228,78,108,243,135,28,33,254,26,11,31,177,188]:=by
 have h1:b9 [[99,104,117,110,107],[120]]=[5,99,104,117,110,107,1,120]:=by kernel_rfl
 rw [idF,wZ,h1,ON]
theorem G0:idF (bD iG) [121]=[128,146,41,163,209,215,6,198,115,241,6,122,23,250,45,179,65,181,116,27,179,143,208,73,72,196,167,220,87,3,255,7]:=by
 have h1:b9 [[99,104,117,110,107],[121]]=[5,99,104,117,110,107,1,121]:=by kernel_rfl
 rw [idF,wZ,h1,Oq]
theorem wQ:idF (bD iG) [120]≠idF (bD iG) [121]:=by
 rw [Hs,G0]
 decide

end Go.Proofs.YtpmhjnhgpplmnaaGreatDoor
end

section
namespace Go.Proofs.YtpmhjnhgpplmnaaGreatDoor
open Go Go.Proofs.YtpmhjnhgpplmnaaGreatDoor.Sx
set_option maxRecDepth 100000
variable (w:World) (R:Ending→World→Prop)
abbrev Ln (a:World) (b:Nat) (c:Bool→World→Prop):Prop:=∃d:World→Prop,d a.drew∧∃e,(∀a,d a→LdQ 106 b 0 (.agg e) a)∧Cbz 46 #[.agg e] a.drew fun a e=>∃f:World→Prop,(∀a,f a→d a)∧f e∧Ifz a (f e∧f e∧f e∧f e∧c true e) (∃a d g,(∀c,f c→LdQ 24 b 0 (.slice a d g) c)∧∃h i j,(∀a,f a→LdQ 24 b 1 (.slice h i j) a)∧Bsz 24 0 #[] e fun b e k l=>∃m:World→Prop,(∀a,m a→f a)∧m l∧Apz 24 (.slice b e k) (.slice a d g) l fun a b d e=>∃f:World→Prop,(∀a,f a→m a)∧f e∧Apz 24 (.slice a b d) (.slice h i j) e fun a b d e=>∃g:World→Prop,(∀a,g a→f a)∧g e∧Cbz 47 #[.slice a b d] e fun a b=>∃d:World→Prop,(∀a,d a→g a)∧d b∧c a b)
theorem nJ (h:Alz 44 w fun a b=>∃c:World→Prop,c b.drew∧∃d,(∀a,c a→(Instr.build 44 #[(0,.int .u64 283),(1,.int .i64 1),(2,.int .i64 1),(3,.int .i64 4),(4,.int .i64 8)]).run Tryz.prog a=.ok (.agg d) a)∧Mkz 26 (.int .i64 48) (.int .i64 48) b.drew (fun b e f g=>∃h:World→Prop,(∀a,h a→c a)∧h g∧Stz 44 a 0 (.agg d) g fun c=>∃d,(loadVar 44 ⟨a,0,none⟩).run Tryz.prog c=.ok d c∧R (.returned (.tuple #[d,.slice b e f])) c)∧Stz 44 a 0 (.agg d) b.drew fun b=>Mkz 26 (.int .i64 48) (.int .i64 48) b fun b d e f=>∃g:World→Prop,(∀a,g a→c a)∧g f∧∃c,(loadVar 44 ⟨a,0,none⟩).run Tryz.prog f=.ok c f∧R (.returned (.tuple #[c,.slice b d e])) f):Calls Tryz.prog 124 #[] w R:=af 0x22100317214420031424721680352017c Tryz.func124 (by kernel_rfl) h
theorem nF (h:Calls Tryz.prog 124 #[] w fun a b=>∃c d e f,a=.returned (.tuple #[.agg c,.slice d e f])∧Alz 44 b fun a b=>Stz 44 a 0 (.agg c) b fun b=>C2z 55 #[.int .i64 10000] b fun b c g=>∃h:Bool→World→Prop,Nez .neq 58 (.tmp 17) c g (fun a=>Ifz a (h true g) (Eqz .eql 51 (.tmp 20) (.const (.pointer none)) b (.pointer none) g (fun a=>h a g)))∧∀c g,h c g→Ifz c (R (.returned (.bool false)) g) (C2z 21 #[b,.string (ByteArray.mk #[120])] g (fun c g h=>Laz 44 a 0 h fun a=>C2z 54 #[b,.string (ByteArray.mk #[120]),.slice d e f,.agg a] h fun a c d=>∃e:Bool→World→Prop,Eqz .neq 58 (.tmp 35) (.tmp 36) g (.iface 65 (.int .i64 21)) d (fun f=>Ifz f (e true d) (Nez .neq 58 (.tmp 39) c d (fun c=>Ifz c (e true d) (Eqz .eql 52 (.tmp 43) (.const (.pointer none)) a (.pointer none) d (fun a=>Ifz a (e true d) (Ciz 61 #[b] d (fun a b=>e (a != (9:Int)) b)))))))∧∀b c,e b c→Ifz b (R (.returned (.bool false)) c) (Bsz 26 1 #[(0,.int .u8 120)] c (fun b c d e=>Cvz 26 26 (.slice b c d) e fun b c d e=>Bsz 26 1 #[(0,.int .u8 121)] e fun e f g h=>Cvz 26 26 (.slice e f g) h fun e f g h=>Bsz 26 1 #[(0,.int .u8 120)] h fun h i j k=>Cvz 26 26 (.slice h i j) k fun h i j k=>Bsz 24 3 #[(0,.slice b c d),(1,.slice e f g),(2,.slice h i j)] k fun b c d e=>Cvv 49 #[a,.slice b c d,.slice none 0 0,.slice none 0 0] e fun b c=>Caz 53 #[a] c fun c d=>Bsz 26 1 #[(0,.int .u8 121)] d fun d e f g=>Cvz 26 26 (.slice d e f) g fun d e f g=>Caz 69 #[.agg c,.slice d e f] g fun c d=>C4z 51 #[a,.agg c] d fun c d e f g=>Nez .eql 58 (.tmp 70) b g fun b=>Ifz b (Nez .eql 58 (.tmp 73) f g (fun b=>Ifz b (∃b,(convert 26 9 (.slice c d e)).run Tryz.prog g=.ok (.string b) g∧Ifz (b.toList==(ByteArray.mk #[121]).toList) (Clz 43 #[a] g (fun b c d e=>Ifz ((c:Int)==2) (Caz 16 #[a] e (fun a b=>∃c,(Instr.field 47 (.agg a) 0).run Tryz.prog b=.ok (.int .i64 c) b∧R (.returned (.bool (c==(2:Int)))) b)) (R (.returned (.bool false)) e))) (R (.returned (.bool false)) g)) (R (.returned (.bool false)) g))) (R (.returned (.bool false)) g)))))):Calls Tryz.prog 45 #[] w R:=af 0x2d2029201c20620e0381411afc4271411a9ce53119ccd431198c1431c05297248147575814dc01914757575757575751c001d30d01410425ecd43101825acd43101c24ec143d14116a1284b1a22052992483dc05299241c001d3014310e2bc143114112e16291a220529924c0167e7824c1d Tryz.func45 (by kernel_rfl) h
theorem kW (a:Array Value) (h:Bxz 106 (.agg a) w fun a b=>∃c:World→Prop,c b.drew∧∃d e f,(∀b,c b→LdQ 24 a 0 (.slice d e f) b)∧Ifz (decide ((e:Int)>40)) (c b.drew∧c b.drew∧R (.returned (.bool true)) b.drew) (∃d e f,(∀b,c b→LdQ 24 a 1 (.slice d e f) b)∧Ifz (decide ((e:Int)>40)) (c b.drew∧c b.drew∧R (.returned (.bool true)) b.drew) (∃d e f,(∀b,c b→LdQ 29 a 7 (.slice d e f) b)∧Ifz (decide ((e:Int)>6)) (c b.drew∧c b.drew∧R (.returned (.bool true)) b.drew) (∃d e f,(∀b,c b→LdQ 24 a 0 (.slice d e f) b)∧∃g h i,(∀b,c b→LdQ 24 a 1 (.slice g h i) b)∧Ciz 65 #[.slice d e f,.int .i64 1048576] b.drew fun b d=>∃e:World→Prop,(∀a,e a→c a)∧e d∧Ciz 65 #[.slice g h i,.int .i64 1048576] d fun c d=>∃f:World→Prop,(∀a,f a→e a)∧f d∧Ifz (decide (IntKind.wrap .i64 (b+c)>(8192:Int))) (R (.returned (.bool true)) d) (∃b c e,(∀d,f d→LdQ 29 a 2 (.slice b c e) d)∧R (.returned (.bool (decide ((c:Int)>60)))) d))))):Calls Tryz.prog 46 #[.agg a] w R:=af 0x483f3e3d4273c303b10483f3e3d4293c303b13d53a39382f420182e40182b472d372a32c29220483f3e3d4293c33b3a39382f5202e402b492d392a32c29222b5281f1e1d4271c301b10483f3e3d4293c33b3a39382f5202e402b492d392a32c29281f1e1d6291c301b11d51a19187427630510483f3e3d4293c33b3a39382f5202e402b492d392a32c29281f1e1d6291c31b1a1918752963051754323271300152017c Tryz.func46 (by kernel_rfl) h
theorem jF (a:Array Value) (h:Bxz 106 (.agg a) w fun a b=>Calls Tryz.prog 124 #[] b fun b c=>∃d e f g,b=.returned (.tuple #[.agg d,.slice e f g])∧Alz 44 c fun b c=>Stz 44 b 0 (.agg d) c fun c=>C2z 55 #[.int .i64 1048576] c fun c d h=>∃i:Bool→World→Prop,Nez .neq 58 (.tmp 17) d h (fun a=>Ifz a (i true h) (Eqz .eql 51 (.tmp 20) (.const (.pointer none)) c (.pointer none) h (fun a=>i a h)))∧∀d h,i d h→Ifz d (R (.returned (.tuple #[.pointer none,.pointer none])) h) (Laz 44 b 0 h (fun b=>C2z 54 #[c,.string (ByteArray.mk #[120]),.slice e f g,.agg b] h fun b d e=>∃f:Bool→World→Prop,Nez .neq 58 (.tmp 30) d e (fun c=>Ifz c (f true e) (Eqz .eql 52 (.tmp 33) (.const (.pointer none)) b (.pointer none) e (fun c=>Ifz c (f true e) (Llz 24 a 0 e (fun a c d=>Buz 89 #[(0,.string (ByteArray.mk #[102,105,114,115,116]))] e fun g=>Bsz 25 1 #[(0,.agg g)] e fun e g h i=>Cvv 49 #[b,.slice a c d,.slice e g h,.slice none 0 0] i fun a b=>Nez .neq 58 (.tmp 42) a b fun a=>f a b)))))∧∀a d,f a d→Ifz a (R (.returned (.tuple #[c,.pointer none])) d) (R (.returned (.tuple #[c,b])) d)))):Calls Tryz.prog 48 #[.agg a] w R:=af 0x4d003d30143914758373d01824ccd43101c248c143114115c11f3e1a22052992483dc002d3014310e2bc143114112e16291a220529924c0167e7824c0d7c Tryz.func48 (by kernel_rfl) h
theorem nB (a b:Nat) (c:Option Addr) (d e:Nat) (h:∃(e:Int→World→Prop) (f:Int→World→Nat),e 0 w∧∀g h,e g h→Ifz (decide (g<(d:Int))) (∃i j,c=some ⟨i,j,none⟩∧0≤g∧g<(d:Int)∧Llz 26 i (j+Int.toNat g*1) h fun c d i=>Caz 53 #[.pointer (some ⟨a,b,none⟩)] h fun j k=>Caz 69 #[.agg j,.slice c d i] k fun j k=>C4z 51 #[.pointer (some ⟨a,b,none⟩),.agg j] k fun a b j k l=>∃m:Bool→World→Prop,Nez .neq 58 (.tmp 24) k l (fun e=>Ifz e (m true l) (∃e,(convert 26 9 (.slice a b j)).run Tryz.prog l=.ok (.string e) l∧∃a,(convert 26 9 (.slice c d i)).run Tryz.prog l=.ok (.string a) l∧m (!(e.toList==a.toList)) l))∧∀a b,m a b→Ifz a (R (.returned (.bool false)) b) (e (IntKind.wrap .i64 (g+1)) b∧f (IntKind.wrap .i64 (g+1)) b<f g h)) (R (.returned (.bool true)) h)):Calls Tryz.prog 50 #[.pointer (some ⟨a,b,none⟩),.slice c d e] w R:=af 0x1d2b001d30d5315310623ac1431141148119381a205297248141814dc01738c8200321d0111b12f1b36143983d21d Tryz.func50 (by kernel_rfl) h
theorem nD (a:Option Addr) (b c:Nat) (h:Calls Tryz.prog 124 #[] w fun d e=>∃f g h i,d=.returned (.tuple #[.agg f,.slice g h i])∧Alz 44 e fun d e=>Stz 44 d 0 (.agg f) e fun d=>Calls Tryz.prog 125 #[.slice g h i] d fun d e=>∃f g,d=.returned (.tuple #[.agg f,.agg g])∧Alz 209 e fun d e=>Alz 39 e fun e h=>Stz 209 d 0 (.agg f) h fun d=>Stz 39 e 0 (.agg g) d fun d=>Laz 39 e 0 d fun e=>Caz 33 #[.agg e] d fun d e=>Alz 41 e fun e f=>Stz 41 e 0 (.agg d) f fun d=>∃(f:Int→World→Prop) (g:Int→World→Nat),f 0 d∧∀d h,f d h→Ifz (decide (d<(b:Int))) (∃i j,a=some ⟨i,j,none⟩∧0≤d∧d<(b:Int)∧Llz 26 i (j+Int.toNat d*1) h fun b i j=>0≤d∧d≤(c:Int)∧∃(c:Int→World→Prop) (k:Int→World→Nat),c 0 h∧∀l m,c l m→Ifz (decide (l<(Int.toNat d:Int))) (∃f g,a=some ⟨f,g,none⟩∧0≤l∧l<(Int.toNat d:Int)∧Llz 26 f (g+Int.toNat l*1) m fun a d f=>∃g:Bool→World→Prop,(∃c:World→Prop,c m.drew∧∃h,(∀a,c a→(convert 26 9 (.slice b i j)).run Tryz.prog a=.ok (.string h) a)∧∃k,(∀b,c b→(convert 26 9 (.slice a d f)).run Tryz.prog b=.ok (.string k) b)∧Ifz (!(h.toList==k.toList)) (∃h,(∀a,c a→LdQ 41 e 0 (.agg h) a)∧∃k,(∀a,c a→LdQ 41 e 0 (.agg k) a)∧Caz 69 #[.agg h,.slice b i j] m.drew fun b e=>∃h:World→Prop,(∀a,h a→c a)∧h e∧Caz 69 #[.agg k,.slice a d f] e fun a c=>∃d:World→Prop,(∀a,d a→h a)∧d c∧∃e,(∀c,d c→(fF .eql 87 (.tmp 46) (.tmp 49) (.agg b) (.agg a)).run Tryz.prog c=.ok (.bool e) c)∧g e c) (c m.drew∧c m.drew∧g false m.drew))∧∀a b,g a b→Ifz a (R (.returned (.bool true)) b) (c (IntKind.wrap .i64 (l+1)) b∧k (IntKind.wrap .i64 (l+1)) b<k l m)) (f (IntKind.wrap .i64 (d+1)) m∧g (IntKind.wrap .i64 (d+1)) m<g d h)) (R (.returned (.bool false)) h)):Calls Tryz.prog 47 #[.slice a b c] w R:=af 0x1d2b2b001d30001d191c301b4018491939631a722001d141c38181b481818481938631a7225b55422533513202254116b11e4e1a201738c8200321d0114a12b4a11b123980d9dc0d7381c8200321d0113913d3911b218124983d206781483c06677e88241c0167e7824c1d Tryz.func47 (by kernel_rfl) h
theorem kN (a:Array Value) (h:Bxz 106 (.agg a) w fun a b=>Cbz 45 #[] b fun b c=>Ifz (!b) (R (.returned (.bool false)) c) (∃b:Bool→World→Prop,Ln c a b∧∀c d,b c d→Ifz c (R (.returned (.bool true)) d) (Laz 106 a 0 d (fun b=>C2z 48 #[.agg b] d fun b c d=>∃e:Bool→World→Prop,Eqz .eql 51 (.tmp 36) (.const (.pointer none)) b (.pointer none) d (fun a=>Ifz a (e true d) (Eqz .eql 52 (.tmp 39) (.const (.pointer none)) c (.pointer none) d (fun a=>e a d)))∧∀b d,e b d→Ifz b (R (.returned (.bool false)) d) (∃b:World→Prop,b d.drew∧∃e f g,(∀c,b c→LdQ 24 a 0 (.slice e f g) c)∧∃h i j,(∀c,b c→LdQ 24 a 1 (.slice h i j) c)∧Bsz 24 0 #[] d.drew fun d k l m=>∃n:World→Prop,(∀a,n a→b a)∧n m∧Apz 24 (.slice d k l) (.slice e f g) m fun b d e f=>∃g:World→Prop,(∀a,g a→n a)∧g f∧Apz 24 (.slice b d e) (.slice h i j) f fun b d e f=>∃h:World→Prop,(∀a,h a→g a)∧h f∧∃(g:Int→Int→World→Prop) (h:Int→Int→World→Nat),g 0 0 f∧∀f i j,g f i j→Ifz (decide (i<(d:Int))) (∃a c,b=some ⟨a,c,none⟩∧0≤i∧i<(d:Int)∧Llz 26 a (c+Int.toNat i*1) j fun a c d=>0≤i∧i≤(e:Int)∧∃(e:Bool→Int→World→Prop) (k:Bool→Int→World→Nat),e true 0 j∧∀l m n,e l m n→Ifz (decide (m<(Int.toNat i:Int))) (∃f g,b=some ⟨f,g,none⟩∧0≤m∧m<(Int.toNat i:Int)∧Llz 26 f (g+Int.toNat m*1) n fun b f g=>∃h:Bool→World→Prop,Ifz l (∃e,(convert 26 9 (.slice a c d)).run Tryz.prog n=.ok (.string e) n∧∃a,(convert 26 9 (.slice b f g)).run Tryz.prog n=.ok (.string a) n∧h (!(e.toList==a.toList)) n) (h false n)∧∀a b,h a b→e a (IntKind.wrap .i64 (m+1)) b∧k a (IntKind.wrap .i64 (m+1)) b<k l m n) (∃a:Int→World→Prop,Ifz l (a (IntKind.wrap .i64 (f+1)) n) (a f n)∧∀b c,a b c→g b (IntKind.wrap .i64 (i+1)) c∧h b (IntKind.wrap .i64 (i+1)) c<h f i j)) (∃g:Bool→World→Prop,Llz 24 a 1 j (fun a h i=>Cvv 49 #[c,.slice a h i,.slice none 0 0,.slice none 0 0] j fun a h=>Nez .neq 58 (.tmp 80) a h fun a=>Ifz a (g true h) (Clz 43 #[c] h (fun a h i j=>Ifz ((h:Int) != f) (g true j) (Cbz 50 #[c,.slice b d e] j (fun a b=>g (!a) b)))))∧∀a h,g a h→Ifz a (R (.returned (.bool false)) h) (Caz 16 #[c] h (fun a g=>∃h i j,(Instr.field 47 (.agg a) 4).run Tryz.prog g=.ok (.slice h i j) g∧∃(a:Int→Int→World→Prop) (j:Int→Int→World→Nat),a 0 0 g∧∀g k l,a g k l→Ifz (decide (k<(i:Int))) (∃b c,h=some ⟨b,c,none⟩∧0≤k∧k<(i:Int)∧Laz 91 b (c+Int.toNat k*3) l fun b=>Alz 91 l fun c d=>Stz 91 c 0 (.agg b) d fun b=>Liz 3 c 2 b fun c=>a (IntKind.wrap .i64 (g+c)) (IntKind.wrap .i64 (k+1)) b∧j (IntKind.wrap .i64 (g+c)) (IntKind.wrap .i64 (k+1)) b<j g k l) (Caz 16 #[c] l (fun a h=>∃i j k,(Instr.field 47 (.agg a) 4).run Tryz.prog h=.ok (.slice i j k) h∧Cvv 49 #[c,.slice b d e,.slice none 0 0,.slice none 0 0] h fun a b=>Nez .eql 58 (.tmp 115) a b fun a=>Ifz (a&&g==f) (Caz 16 #[c] b (fun a b=>∃d e g,(Instr.field 47 (.agg a) 4).run Tryz.prog b=.ok (.slice d e g) b∧Ifz ((e:Int)==(j:Int)) (Clz 43 #[c] b (fun a b d e=>Ifz ((b:Int)==f) (Caz 16 #[c] e (fun a b=>∃c,(Instr.field 47 (.agg a) 0).run Tryz.prog b=.ok (.int .i64 c) b∧R (.returned (.bool (c==(4:Int)))) b)) (R (.returned (.bool false)) e))) (R (.returned (.bool false)) b))) (R (.returned (.bool false)) b))))))))))):Calls Tryz.prog 8 #[.agg a] w R:=af 0x2d201d20620e038141299c52714128ac527381411fac13b1431c01914dc0d738141c2b0d03d1067838c8200321d00211cb11c2191cb11e11c3980d738141c21d001d30d414d0521b9c52714101c21aac14391473d14111be12a19d1a222b03b301151219a152a1d2b0720e531531189cd1411191181881192a01738c8200321d04217c11921d7c11b1193980d9dc21d0d7381c8200321d00216b1523a6b11b37154983d2000717264723472047537234122521d001d3014310e4ec1431141159164c1a22052992483c001d30001b14181a4721947264723471837537422001b101a40194064034918395374222d50214181480354113e11c2b1a22001d301414c2017c Tryz.func8 (by kernel_rfl) h
end Go.Proofs.YtpmhjnhgpplmnaaGreatDoor
end

section
namespace Go.Proofs.YtpmhjnhgpplmnaaGreatDoor
open Go Sx
set_option maxRecDepth 8000

section
variable {w0 w w':World} {N:List Res} {gd:Nat} {ps:List Nat} {m:ah}
def NB (pw:ByteArray) (m:ah):Option Int:=if cV pw then Mt (dY pw) m else some 28
theorem Jn (pw:ByteArray) {e:Int} (h:aj w0 [] w gd ps m N) (hd:m.down=false) (hK:cI w0) (hT:iE w0) (hE:ql w0) (he:NB pw m=some e):
   Calls Tryz.prog 21 #[pV gd,.string pw] w fun r w'=>r=.returned (.tuple #[.pointer none,bG (some e)])∧Chg [] w w':=by
 obtain ⟨mI,hI⟩:=eI
 unfold NB at he
 apply A2
 refine (mw pw w).mono ?_
 rintro r w1 ⟨rfl,rfl⟩
 refine ⟨_,rfl,fun hbad=>?_,fun hgood=>(uY h).mono ?_⟩
 · have hb:cV pw=false:=by simpa using hbad
   rw [hb] at he
   obtain rfl:(28:Int)=e:=by simpa using he
   exact ⟨rfl,Chg.refl _ _⟩
 have hg:cV pw=true:=by simpa using hgood
 rw [hg] at he
 rintro r w2 ⟨rfl,rfl⟩
 refine ⟨_,rfl,fun hbad=>(by rw [hd] at hbad;cases hbad),fun _=>⟨_,vO gd w2,(FX pw h hd hK hT hE he).mono ?_⟩⟩
 rintro r w3 ⟨rfl,c3⟩
 exact ⟨_,_,rfl,_,az hI (some e) _ _,fun _=>⟨rfl,c3⟩,fun h=>(by cases h)⟩
end


theorem Gx (w:World):(zeroValue 44).run Tryz.prog w=.ok (.agg (cZ ⟨0,0,0,0,0⟩).toArray) w:=Tryz.zeroValue44 w
theorem j0 (s:iS):∀v∈cZ s,v.oneCell'=true:=fun v hv=>by
 simp only [cZ,List.mem_cons,List.not_mem_nil,or_false] at hv
 rcases hv with rfl | rfl | rfl | rfl | rfl<;>rfl
theorem I6 {w0 w:World} {X:List Nat} {M:List Res} (h:St w0 X w M):∃g w',(Instr.makeSlice 26 (.int .i64 48) (.int .i64 48)).run Tryz.prog w=.ok (.slice (some ⟨g,0,none⟩) 48 48) w'∧St w0 X w' (M++ [.row 5 1 (.slice (some ⟨g,0,none⟩) 48 48) 48 (bv (List.replicate 48 0))]):=by
 obtain ⟨g,w',r,k⟩:=h.mkN (kl:=.i64) (kc:=.i64) (c:=48) bT rfl (by decide) (by decide) (by decide)
 exact ⟨g,w',r,k⟩
theorem mV (w:World):Calls Tryz.prog 124 #[] w fun e w'=>∃g,e=.returned (.tuple #[.agg (cZ dm).toArray,.slice (some ⟨g,0,none⟩) 48 48])∧St w [] w' [.row 5 1 (.slice (some ⟨g,0,none⟩) 48 48) 48 (bv (List.replicate 48 0))]:=by
 apply nJ
 obtain ⟨g0,w1,r1,k1⟩:=(St.start w).aD Gx
 have k1:St w [] w1 [.arr g0 44 (cZ ⟨0,0,0,0,0⟩)]:=k1
 have k1d:=k1.drew
 refine ⟨g0,w1,r1,fun w'=>∃l M,l.length=5∧St w [] w' (.arr g0 44 l::M),⟨_,[],rfl,k1d⟩,_,fun w' _=>II dm w',?_,?_⟩
 · obtain ⟨g,w2,r2,k2⟩:=I6 k1d
   obtain ⟨w3,r3,k3⟩:=k2.stA (i:=0) (v:=cZ dm) rfl (seS _) rfl rfl (j0 _)
   exact ⟨_,_,_,w2,r2,_,fun _ h=>h,⟨_,_,rfl,k2⟩,w3,r3,_,k3.bQ (i:=0) (l:=cZ dm) rfl (seA _) (seS _) rfl,g,rfl,k3.sub (List.sublist_cons_self _ _)⟩
 · obtain ⟨w3,r3,k3⟩:=k1d.stA (i:=0) (v:=cZ dm) rfl (seS _) rfl rfl (j0 _)
   have k3:St w [] w3 [.arr g0 44 (cZ dm)]:=k3
   obtain ⟨g,w4,r4,k4⟩:=I6 k3
   exact ⟨w3,r3,_,_,_,w4,r4,_,fun _ h=>h,⟨_,_,rfl,k4⟩,_,k4.bQ (i:=0) (l:=cZ dm) rfl (seA _) (seS _) rfl,g,rfl,k4.sub (List.sublist_cons_self _ _)⟩

end Go.Proofs.YtpmhjnhgpplmnaaGreatDoor
end

section
namespace Go.Proofs.YtpmhjnhgpplmnaaGreatDoor
open Go Sx
set_option maxRecDepth 8000

theorem uQ {j k:Nat} {m:ah} {r:ah×Option Int} {f:ah→ah×Option Int} (h:Cnt j m r.1) (hf:∀m',Cnt k m' (f m').1):Cnt (j+k) m (aR r f).1:=by
 unfold aR
 cases r.2 with
 | some e=>exact h.mono (by omega)
 | none=>exact h.trans (hf _)
theorem Ke (pw salt ms:List UInt8) (s:iS) (m:ah):Cnt 23 m (jC pw salt ms s m).1:=by
 unfold jC
 exact uQ (j:=1) (k:=22) (qT _ _) fun _=>uQ (j:=1) (k:=21) (qF _ _ _) fun _=>uQ (j:=1) (k:=20) (xA _ _) fun _=>qV _ _ _
theorem I1 {pw salt m:List UInt8} (hok:uB pw=true) (hs:salt.length=16) (hm:m.length=32):(iw pw salt m).length=101∧iY pw (iw pw salt m)=some m:=by
 have hl8:=fQ (iQ pw salt) 1 salt m (by omega)
 obtain ⟨b,hb⟩:∃b,dD (iQ pw salt) 1 salt m=b:=⟨_,rfl⟩
 have ho:=yV (iQ pw salt) 1 salt m (by omega)
 rw [hb] at hl8 ho
 have hf:iw pw salt m=jo++(salt++b):=by rw [iw,if_pos hok,hb,List.append_assoc]
 have h8:jo.length=8:=rfl
 have hlen:(iw pw salt m).length=101:=by rw [hf];simp [h8,hs,hl8,hm]
 refine ⟨hlen,?_⟩
 have t8:(iw pw salt m).take 8=jo:=by rw [hf];exact List.take_left' h8
 have dd8:(iw pw salt m).drop 8=salt++b:=by rw [hf];exact List.drop_left' h8
 have s16:((iw pw salt m).drop 8).take 16=salt:=by rw [dd8];exact List.take_left' hs
 have d24:(iw pw salt m).drop 24=b:=by
   rw [show (24:Nat)=8+16 from rfl,←List.drop_drop,dd8];exact List.drop_left' hs
 rw [iY,if_pos ⟨hok,hlen,t8⟩,s16,d24,ho]

noncomputable def KA:List UInt8:=bD iG
def yD:List UInt8:=List.replicate 16 0
noncomputable def kfA:List UInt8:=iw [120] yD iG
noncomputable def nO (s:Int):ah:=(jC [120] yD iG dm (jG s)).1
theorem Ec:dm.poly<18446744073709551616:=by decide
theorem kD {s:Int} (h0:1000≤s) (hs:s≤67108864):(jC [120] yD iG dm (jG s)).2=none∧Calm (nO s)∧(nO s).steps=9∧(nO s).chs.length≤23∧jE KA kfA (fJ dm) [] [] [] 301 2 s (nO s):=by
 have hl:=(I1 (pw:=[120]) (salt:=yD) (m:=iG) (by decide) (by decide) (by decide)).1
 have hck:aI (fJ dm)=true:=qR Et
 have he:=BI (bD iG) (lV hck ⟨Ec,by simp [fJ],by simp [fJ]⟩)
 simp only [fJ,List.length_nil] at he
 obtain ⟨h1,h2,h3,L,Z,ro,sv⟩:=JR [120] yD iG Et Ec hs (by rw [hl];show (101:Int)+((jq (bD iG) (fJ dm)).length:Int)≤s;unfold fJ;omega)
 have hc:=(Ke [120] yD iG dm (jG s)).2
 refine ⟨h1,h2,h3,by have:(jG s).chs.length=0:=rfl;show (jC [120] yD iG dm (jG s)).1.chs.length≤23;omega,L,Z,ro,sv.imp (fun _ h=>h) (fun _ h=>h) ?_ (Nat.le_refl _)⟩
 rw [hl]
 unfold fJ
 omega
theorem Cw {K a b:List UInt8} (h:idF K a≠idF K b):aH K [] [] [a,b,a]=[HJ K a,HJ K b]:=by
 have hs:∀id,iM [] [] id=false:=fun _=>rfl
 simp [aH,fM,bL,hs,HJ,Ne.symm h]
theorem tY {g n:Int} {ps:List PkD} {sn:List cU} (hg:1≤g∧g≤1099511627776) (hn:0≤n∧n≤1099511627776) (hl:ps.length≤1024) (hp:iR n (-1) ps=true) (hsl:sn.length≤64) (hs:sn.all bM=true) (ha:DU sn=true):aI ⟨g,n,dm,sn,ps⟩=true:=by
 unfold aI jA
 simp only [Et,Bool.and_eq_true,decide_eq_true_eq]
 exact ⟨⟨⟨hg.1,hg.2,hn.1,hn.2⟩,trivial,hsl,hl⟩,hs,ha,hp⟩

theorem Fk:∃m2 r2,cB ⟨KA,fJ dm,[],false⟩ (nO 10000) [[120],[121],[120]] [] []=((m2,none),r2)∧r2.K=KA∧r2.S.length=2∧r2.C.gen=2∧getM r2 m2 (idF KA [121])=(none,[121])∧bY (aH KA [] [] [[120],[121],[120]]):=by
 obtain ⟨_,hc,_,_,hh⟩:=kD (s:=10000) (by decide) (by decide)
 have hx:=Cw (K:=KA) (a:=[120]) (b:=[121]) wQ
 obtain ⟨hsm,hnum,hsum⟩:=vM KA [] [] (ls:=[[120],[121],[120]]) (t:=138) (by decide) (by decide) (by decide) (by decide)
 have hn:ApN KA (fJ dm) [] [] [[120],[121],[120]] [] [] 600 300 301 2 10000:=by
   refine ⟨?_,hsm,by decide,by simp,?_,fun ok=>?_,by decide,by decide⟩
   · rw [hx]
     show iH (fJ dm) [] [] true=none
     unfold iH
     rw [if_neg (by decide),if_neg (by decide),if_pos]
     exact tY (by decide) (by decide) (by decide) (by decide) (by decide) (by decide) (by decide)
   · have:=Ab KA (fJ dm).next hsm
     simp only [List.length_cons,List.length_nil] at hnum
     omega
   · have:=BI KA ok
     refine Nat.le_trans this ?_
     rw [hx]
     show 200+100*0+27*1≤300
     decide
 obtain ⟨h1,h2,h3,h4⟩:=mH hh hc hn hx
 obtain ⟨⟨⟨m2,e2⟩,r2⟩,hA⟩:∃A,cB ⟨KA,fJ dm,[],false⟩ (nO 10000) [[120],[121],[120]] [] []=A:=⟨_,rfl⟩
 rw [hA] at h1 h2 h3 h4
 simp only at h1 h2 h3 h4
 subst h1 h2
 refine ⟨m2,_,hA,rfl,?_,rfl,?_,hsm⟩
 · obtain ⟨L,Z,ro,_⟩:=h4
   have:=ro.rl.refs.length_eq
   rw [yB] at this
   exact this
 · obtain ⟨p,hp,h5,h6⟩:=h4.get h3.d (id:=idF KA [121]) (by
     obtain ⟨L,Z,ro,_⟩:=hh
     have:=(ro.rl.there [] [[120],[121],[120]] (n:=(fJ dm).next) (by decide) hsm).1 [121] (by simp)
     rw [hx] at this
     exact this)
   rw [h6]
   simp only [List.nil_append,List.mem_cons,List.not_mem_nil,or_false] at hp
   rcases hp with rfl | rfl | rfl
   · exact absurd h5 wQ
   · rfl
   · exact absurd h5 wQ

end Go.Proofs.YtpmhjnhgpplmnaaGreatDoor
end

section
namespace Go.Proofs.YtpmhjnhgpplmnaaGreatDoor
open Go Sx
set_option maxRecDepth 8000

theorem pH {next next':Int} (hn:next≤next') (f:PkD→Bool):∀ {Q:List PkD} {last last':Int},last'≤last→iR next last Q=true→iR next' last' (Q.filter f)=true
 | [],_,_,_,_=>rfl
 | p::Q,last,last',hl,h=>by
   simp only [iR,Bool.and_eq_true,decide_eq_true_eq] at h
   rw [List.filter_cons]
   split
   · simp only [iR,Bool.and_eq_true,decide_eq_true_eq]
     exact ⟨⟨by omega,by omega,h.1.2.2⟩,pH hn f (Int.le_refl _) h.2⟩
   · exact pH hn f (by omega) h.2
theorem z1 {next next':Int} (hn:next<next'):∀ {Q:List PkD} {last:Int},last<next→iR next last Q=true→iR next' last (Q++ [⟨next,0,0⟩])=true
 | [],last,hl,_=>by
   simp only [List.nil_append,iR,Bool.and_eq_true,decide_eq_true_eq]
   exact ⟨⟨hl,hn,by omega,by omega⟩,trivial⟩
 | p::Q,last,hl,h=>by
   simp only [iR,Bool.and_eq_true,decide_eq_true_eq] at h
   simp only [List.cons_append,iR,Bool.and_eq_true,decide_eq_true_eq]
   exact ⟨⟨h.1.1,by omega,h.1.2.2⟩,z1 hn h.1.2.1 h.2⟩

structure Lq (sn:List cU):Prop where
 len:sn.length≤64
 good:sn.all bM=true
 asc:DU sn=true
 size:∀x∈sn,x.size≤9223372036854775807
theorem Cd:Lq []:=⟨by decide,by decide,by decide,by simp⟩
theorem Kh {C:bH} {snaps:List cU} (hck:aI C=true) (hset:C.set=dm) (hg:C.gen<1099511627776) (hnx:C.next<1099511627776) (hpl:C.aq.length≤1023) (hs:Lq snaps) (drop:List Int) (grows:Bool):iH C snaps drop grows=none:=by
 have hbd:=bh hck
 have hkl:=uV drop C.aq
 have hpk:iR C.next (-1) C.aq=true:=by
   unfold aI at hck
   simp only [Bool.and_eq_true] at hck
   exact hck.2.2.2
 have hw:sO C grows=false:=by
   unfold sO
   have h1:(C.gen==1099511627776)=false:=by rw [beq_eq_false_iff_ne];omega
   have h2:(C.next==1099511627776)=false:=by rw [beq_eq_false_iff_ne];omega
   rw [h1,h2];simp
 unfold iH
 rw [hw,if_neg (by decide)]
 cases grows with
 | false=>
   have e:bR C snaps drop false=⟨C.gen+1,C.next,dm,snaps,bt drop C.aq⟩:=by unfold bR;rw [hset];simp
   rw [e,if_neg (by simp only;omega),if_pos]
   exact tY ⟨by omega,by omega⟩ hbd.2.1 (by omega) (pH (Int.le_refl _) _ (Int.le_refl _) hpk) hs.len hs.good hs.asc
 | true=>
   have e:bR C snaps drop true=⟨C.gen+1,C.next+1,dm,snaps,bt drop C.aq++ [⟨C.next,0,0⟩]⟩:=by unfold bR;rw [hset];rfl
   rw [e,if_neg (by simp only [List.length_append,List.length_singleton];omega),if_pos]
   exact tY ⟨by omega,by omega⟩ ⟨by omega,by omega⟩ (by simp only [List.length_append,List.length_singleton];omega) (z1 (by omega) (by omega) (pH (Int.le_refl _) _ (Int.le_refl _) hpk)) hs.len hs.good hs.asc

section
variable {K kf:List UInt8} {C:bH} {S:Refs} {PL:PkL} {U:List (List UInt8)} {u c:Nat} {s:Int} {m:ah}
theorem uR (PL:PkL) (drop:List Int) (n:Int) (xs:List Itm):(dB PL drop n xs).length≤PL.length+1:=by
 unfold dB
 have:=List.length_filter_le (fun q:Int×List Itm=> !drop.contains q.1) PL
 rw [List.length_append]
 split
 · rw [List.length_nil];omega
 · rw [List.length_singleton];omega
theorem xK:∀ls:List (List UInt8),(ls.map fun p=>p.length+45).sum=ls.flatten.length+45*ls.length
 | []=>rfl
 | l::ls=>by
   have:=xK ls
   simp only [List.map_cons,List.sum_cons,List.flatten_cons,List.length_append,List.length_cons,this]
   omega
theorem rM {ls:List (List UInt8)} {p:List UInt8} (h:p∈ls):p.length≤ls.flatten.length:=by
 have:=tK (List.mem_map_of_mem (f:=List.length) h)
 rwa [←List.length_flatten] at this
theorem BQ (hh:jE K kf C S PL U u c s m) (hset:C.set=dm) (hg:C.gen<1099511627776) (hnx:C.next<1099511627776) (hpl:PL.length≤10) {ls:List (List UInt8)} {snaps:List cU} (drop:List Int) (hl:ls.length≤160) (ht:ls.flatten.length≤17000) (hs:Lq snaps) (hs1:snaps.length≤1) (hroom:(u:Int)+50000≤s) (hc:c+2≤4096):
   ApN K C PL S ls snaps drop 49000 1000 u c s:=by
 obtain ⟨L,Z,ro,_⟩:=hh
 have hp:∀p∈ls,p.length≤67000000:=fun p hp=>by have:=rM hp;omega
 have hpc:C.aq.length=PL.length:=by rw [ro.rl.aq];simp
 obtain ⟨hsm,hnum,hsum⟩:=vM K S drop (ls:=ls) (t:=24200) (by omega) (by rw [xK];omega) (by decide) hp
 refine ⟨Kh ro.chk hset hg hnx (by omega) hs drop _,hsm,hp,hs.size,?_,fun ok=>?_,by omega,hc⟩
 · have:=Ab K C.next hsm
   omega
 · have h1:=BI K ok
   have h2:=uR PL drop C.next (aH K S drop ls)
   have h3:(cG K C PL snaps drop (aH K S drop ls)).snaps.length=snaps.length:=rfl
   have h4:(cG K C PL snaps drop (aH K S drop ls)).aq.length=(dB PL drop C.next (aH K S drop ls)).length:=by show (List.map _ _).length=_;simp
   omega
end

end Go.Proofs.YtpmhjnhgpplmnaaGreatDoor
end

section
namespace Go.Proofs.YtpmhjnhgpplmnaaGreatDoor
open Go Go.Proofs.YtpmhjnhgpplmnaaGreatDoor.Sx
set_option maxRecDepth 100000
variable (w:World) (R:Ending→World→Prop)
theorem nG (a:Option Addr) (b c:Nat) (h:Alz 209 w fun c d=>Alz 39 d fun d e=>Buz 209 #[] e fun f=>Alz 209 e fun e g=>Stz 209 e 0 (.agg f) g fun f=>Buz 39 #[] f fun g=>Alz 39 f fun f h=>Stz 39 f 0 (.agg g) h fun g=>∃(h:Int→World→Prop) (i:Int→World→Nat),h 0 g∧∀g j,h g j→Ifz (decide (g<(16:Int))) (∃c d,a=some ⟨c,d,none⟩∧0≤g∧g<(b:Int)∧Lkz .u8 5 c (d+Int.toNat g*1) j fun a=>0≤g∧g<(16:Int)∧Stz 5 e (0+Int.toNat g*1) (.int .u8 a) j fun a=>h (IntKind.wrap .i64 (g+1)) a∧i (IntKind.wrap .i64 (g+1)) a<i g j) (∃(g:Int→World→Prop) (h:Int→World→Nat),g 0 j∧∀i j,g i j→Ifz (decide (i<(32:Int))) (∃c d,a=some ⟨c,d,none⟩∧0≤IntKind.wrap .i64 ((16:Int)+i)∧IntKind.wrap .i64 ((16:Int)+i)<(b:Int)∧Lkz .u8 5 c (d+Int.toNat (IntKind.wrap .i64 ((16:Int)+i))*1) j fun a=>0≤i∧i<(32:Int)∧Stz 5 f (0+Int.toNat i*1) (.int .u8 a) j fun a=>g (IntKind.wrap .i64 (i+1)) a∧h (IntKind.wrap .i64 (i+1)) a<h i j) (∃a:World→Prop,a j.drew∧∃b,(∀c,a c→LdQ 209 e 0 (.agg b) c)∧∃e,(∀b,a b→LdQ 39 f 0 (.agg e) b)∧Stz 209 c 0 (.agg b) j.drew fun b=>∃f:World→Prop,(∀b,f b→a b)∧f b∧Stz 39 d 0 (.agg e) b fun a=>∃b,(loadVar 209 ⟨c,0,none⟩).run Tryz.prog a=.ok b a∧∃c,(loadVar 39 ⟨d,0,none⟩).run Tryz.prog a=.ok c a∧R (.returned (.tuple #[b,c])) a))):Calls Tryz.prog 125 #[.slice a b c] w R:=af 0x1310434424813803523b068138421820032d2011711b2c172981d23b068138e1820032d2011611a1a162981d206783c06783c077c Tryz.func125 (by kernel_rfl) h
end Go.Proofs.YtpmhjnhgpplmnaaGreatDoor
end

section
namespace Go.Proofs.YtpmhjnhgpplmnaaGreatDoor
open Go Sx
set_option maxRecDepth 8000

structure zz where
 pa:Option Addr
 pn:Nat
 pc:Nat
 vp:List Value
 lp:List (List UInt8)
 la:Option Addr
 ln:Nat
 lc:Nat
 vl:List Value
 ll:List (List UInt8)
 da:Option Addr
 dn:Nat
 dc:Nat
 drop:List Int
 arm:Int
 fa:Option Addr
 fn:Nat
 fc:Nat
 bN:List Int
 tI:Int
 ca:Option Addr
 cn:Nat
 cc:Nat
 Ov:List Int
 aa:Option Addr
 an:Nat
 ac:Nat
 MP:List Int
def lQ (x:zz):List Value:=[.slice x.pa x.pn x.pc,.slice x.la x.ln x.lc,.slice x.da x.dn x.dc,.int .i64 x.arm,.slice x.fa x.fn x.fc,.int .i64 x.tI,.slice x.ca x.cn x.cc,.slice x.aa x.an x.ac]
structure yN (w:World) (x:zz):Prop where
 rp:Rd w x.pa x.pn x.pc 1 x.vp
 rp2:cH w x.vp x.lp
 rl:Rd w x.la x.ln x.lc 1 x.vl
 rl2:cH w x.vl x.ll
 rd:RdZ w x.da x.dn x.dc x.drop
 rf:RdZ w x.fa x.fn x.fc x.bN
 rc:RdZ w x.ca x.cn x.cc x.Ov
 ra:RdZ w x.aa x.an x.ac x.MP
theorem yN.au {w w':World} {x:zz} (h:yN w x) (hc:Chg [] w w'):yN w' x:=⟨h.rp.au hc,h.rp2.au hc,h.rl.au hc,h.rl2.au hc,h.rd.au hc,h.rf.au hc,h.rc.au hc,h.ra.au hc⟩
theorem yN.lens {w:World} {x:zz} (h:yN w x):x.lp.length=x.pn∧x.ll.length=x.ln∧x.drop.length=x.dn∧x.MP.length=x.an:=by
 have h1:=h.rp.len
 have h2:=h.rp2.len
 have h3:=h.rl.len
 have h4:=h.rl2.len
 exact ⟨by omega,by omega,h.rd.num,h.ra.num⟩
structure Jy (x:zz):Prop where
 p:x.lp.length≤40
 l:x.ll.length≤40
 a:x.MP.length≤6
 s:x.lp.flatten.length+x.ll.flatten.length≤8192
 d:x.drop.length≤60

theorem zn (w:World):(isAgg 24).run Tryz.prog w=.ok false w:=Tryz.isAgg24 w
theorem ctA (w:World):(isAgg 106).run Tryz.prog w=.ok true w:=Tryz.isAgg106 w
theorem ctS (w:World):(sizeOf 106).run Tryz.prog w=.ok 8 w:=Tryz.sizeOf106 w

set_option maxHeartbeats 1000000 in
theorem BR (x:zz) (w:World) (h:yN w x):Calls Tryz.prog 46 #[.agg (lQ x).toArray] w fun e w'=>∃b,e=.returned (.bool b)∧(b=false→Jy x)∧Chg [] w w':=by
 obtain ⟨l1,l2,l3,l4⟩:=h.lens
 apply kW
 obtain ⟨g1,w1,r1,k1⟩:=(St.start w).cz (P:=Tryz.prog) 106 (lQ x)
 have k1:St w [] w1 [.arr g1 106 (lQ x)]:=k1
 have k1d:=k1.drew
 have s1:∃M,St w [] w1.drew (.arr g1 106 (lQ x)::M):=⟨[],k1d⟩
 refine ⟨g1,w1,r1,fun w'=>∃M,St w [] w' (.arr g1 106 (lQ x)::M),s1,_,_,_,fun w' ⟨_,k⟩=>k.ldL (i:=0) (o:=0) rfl (zn _) rfl rfl,fun _=>⟨s1,s1,true,rfl,(fun h=>by cases h),k1d.chg⟩,fun h1=>⟨_,_,_,fun w' ⟨_,k⟩=>k.ldL (i:=0) (o:=1) rfl (zn _) rfl rfl,fun _=>⟨s1,s1,true,rfl,(fun h=>by cases h),k1d.chg⟩,fun h2=>⟨_,_,_,fun w' ⟨_,k⟩=>k.ldL (i:=0) (o:=7) rfl (Ja _) rfl rfl,fun _=>⟨s1,s1,true,rfl,(fun h=>by cases h),k1d.chg⟩,fun h3=>⟨_,_,_,fun w' ⟨_,k⟩=>k.ldL (i:=0) (o:=0) rfl (zn _) rfl rfl,_,_,_,fun w' ⟨_,k⟩=>k.ldL (i:=0) (o:=1) rfl (zn _) rfl rfl,(DB x.pa x.pn x.pc x.vp x.lp 1048576 w1.drew (h.rp.au k1d.chg) (h.rp2.au k1d.chg) (by decide) (by simp at h1;omega)).mono ?_⟩⟩⟩⟩
 rintro e w2 ⟨rfl,rfl⟩
 refine ⟨_,rfl,_,fun _ h=>h,s1,(DB x.la x.ln x.lc x.vl x.ll 1048576 w1.drew (h.rl.au k1d.chg) (h.rl2.au k1d.chg) (by decide) (by simp at h2;omega)).mono ?_⟩
 rintro e w3 ⟨rfl,rfl⟩
 refine ⟨_,rfl,_,fun _ h=>h,s1,fun _=>⟨true,rfl,(fun h=>by cases h),k1d.chg⟩,fun h4=>⟨_,_,_,fun w' ⟨_,k⟩=>k.ldL (i:=0) (o:=2) rfl (Ja _) rfl rfl,_,rfl,fun h5=>?_,k1d.chg⟩⟩
 simp only [decide_eq_false_iff_not] at h1 h2 h3 h4 h5
 rw [wrap_i64 (by split<;>split<;>omega) (by split<;>split<;>omega)] at h4
 refine ⟨by omega,by omega,by omega,?_,by omega⟩
 split at h4<;>split at h4<;>omega

def NC (K:List UInt8) (ls:List (List UInt8)):Prop:=∀a∈ls,∀b∈ls,idF K a=idF K b→a=b
theorem E7 (w:World):(Instr.build 209 #[]).run Tryz.prog w=.ok (.agg (bv (List.replicate 16 0)).toArray) w:=by
 apply run_build
 kernel_rfl
theorem EX (w:World):(Instr.build 39 #[]).run Tryz.prog w=.ok (.agg (bv (List.replicate 32 0)).toArray) w:=by
 apply run_build
 kernel_rfl
theorem Fa (w:World):(zeroValue 209).run Tryz.prog w=.ok (.agg (bv (List.replicate 16 0)).toArray) w:=Tryz.zeroValue209 w
theorem IZ (w:World):(isAgg 209).run Tryz.prog w=.ok true w:=Tryz.isAgg209 w
theorem wM (w:World):(sizeOf 209).run Tryz.prog w=.ok 16 w:=Tryz.sizeOf209 w
theorem wz {n i:Nat} (h:i<n):(bv (List.replicate n 0))[i]?=some (.int .u8 0):=by
 simp [bv,h]

set_option maxHeartbeats 1000000 in
theorem Bu (a:Option Addr) (c:Nat) (w:World) (hr:RdB w a 48 c (List.replicate 48 0)):Calls Tryz.prog 125 #[.slice a 48 c] w fun e w'=>e=.returned (.tuple #[.agg (bv (List.replicate 16 0)).toArray,.agg (bv (List.replicate 32 0)).toArray])∧Chg [] w w':=by
 have sU:∀w,(sizeOf 5).run Tryz.prog w=.ok 1 w:=fun w=>Tryz.sizeOf5 w
 have o16:∀v∈bv (List.replicate 16 0),v.oneCell'=true:=aO _
 have o32:∀v∈bv (List.replicate 32 0),v.oneCell'=true:=aO _
 apply nG
 obtain ⟨g2,w1,r1,k1⟩:=(St.start w).aD Fa
 obtain ⟨g3,w2,r2,k2⟩:=k1.aD eD
 obtain ⟨g4,w3,r3,k3⟩:=k2.aD Fa
 obtain ⟨w4,r4,k4⟩:=k3.stA (i:=2) (v:=bv (List.replicate 16 0)) rfl (wM _) (by simp) (by simp) o16
 obtain ⟨g5,w5,r5,k5⟩:=k4.aD eD
 obtain ⟨w6,r6,k6⟩:=k5.stA (i:=3) (v:=bv (List.replicate 32 0)) rfl (cL _) (by simp) (by simp) o32
 obtain ⟨T,hT⟩:∃T:List Res,[.arr g2 209 (bv (List.replicate 16 0)),.arr g3 39 (bv (List.replicate 32 0)),.arr g4 209 (bv (List.replicate 16 0)),.arr g5 39 (bv (List.replicate 32 0))]=T:=⟨_,rfl⟩
 have k6:St w [] w6 T:=by rw [←hT];exact k6
 have hT2:T[2]?=some (.arr g4 209 (bv (List.replicate 16 0))):=by rw [←hT];rfl
 have hT3:T[3]?=some (.arr g5 39 (bv (List.replicate 32 0))):=by rw [←hT];rfl
 refine ⟨g2,w1,r1,g3,w2,r2,_,E7 w2,g4,w3,r3,w4,r4,_,EX w4,g5,w5,r5,w6,r6,fun x w'=>∃i:Nat,x=(i:Int)∧i≤16∧St w [] w' T,fun x _=>16-x.toNat,⟨0,rfl,by omega,k6⟩,?_⟩
 rintro x w7 ⟨i,rfl,hi,k7⟩
 refine ⟨fun hlt=>?_,fun hge=>?_⟩
 · have hi':i<16:=by simp at hlt;omega
   obtain ⟨b,o,hab,hcl⟩:=(hr.au k7.chg).cells.at_ (i:=i) (v:=.int .u8 0) (wz (by omega))
   obtain ⟨w8,r8,k8⟩:=k7.stL (i:=2) (o:=i) (off:=0+Int.toNat (i:Int)*1) (T:=5) (v:=.int .u8 0) hT2 (sU _) (by omega) (by simp;omega) rfl
   rw [mm (wz (by omega)),mm hT2] at k8
   exact ⟨b,o,hab,by omega,by omega,_,by rw [Int.toNat_natCast,Nat.mul_one];exact ld1 (bA _) hcl,by omega,by omega,w8,r8,⟨i+1,ay hi' (by omega),by omega,k8⟩,aB hi' (by omega)⟩
 refine ⟨fun x w'=>∃i:Nat,x=(i:Int)∧i≤32∧St w [] w' T,fun x _=>32-x.toNat,⟨0,rfl,by omega,k7⟩,?_⟩
 rintro x w9 ⟨j,rfl,hj,k9⟩
 refine ⟨fun hlt=>?_,fun hge=>?_⟩
 · have hj':j<32:=by simp at hlt;omega
   have hwr:IntKind.wrap .i64 ((16:Int)+(j:Int))=((16+j:Nat):Int):=by rw [wrap_i64 (by omega) (by omega)];omega
   obtain ⟨b,o,hab,hcl⟩:=(hr.au k9.chg).cells.at_ (i:=16+j) (v:=.int .u8 0) (wz (by omega))
   obtain ⟨w10,r10,k10⟩:=k9.stL (i:=3) (o:=j) (off:=0+Int.toNat (j:Int)*1) (T:=5) (v:=.int .u8 0) hT3 (sU _) (by omega) (by simp;omega) rfl
   rw [mm (wz (by omega)),mm hT3] at k10
   rw [hwr]
   exact ⟨b,o,hab,by omega,by omega,_,by rw [Int.toNat_natCast,Nat.mul_one];exact ld1 (bA _) hcl,by omega,by omega,w10,r10,⟨j+1,ay hj' (by omega),by omega,k10⟩,aB hj' (by omega)⟩
 have k9d:=k9.drew
 rw [←hT] at k9d
 obtain ⟨w11,r11,k11⟩:=k9d.stA (i:=0) (v:=bv (List.replicate 16 0)) rfl (wM _) (by simp) (by simp) o16
 obtain ⟨w12,r12,k12⟩:=k11.stA (i:=1) (v:=bv (List.replicate 32 0)) rfl (cL _) (by simp) (by simp) o32
 refine ⟨fun w'=>∃l0 l1 M,l0.length=16∧l1.length=32∧St w [] w' (.arr g2 209 l0:: .arr g3 39 l1:: .arr g4 209 (bv (List.replicate 16 0)):: .arr g5 39 (bv (List.replicate 32 0))::M),⟨_,_,[],by simp,by simp,k9d⟩,_,fun w' ⟨_,_,_,_,_,k⟩=>k.ldA (i:=2) (l:=bv (List.replicate 16 0)) rfl (IZ _) (wM _) (by simp),_,fun w' ⟨_,_,_,_,_,k⟩=>k.ldA (i:=3) (l:=bv (List.replicate 32 0)) rfl (jY _) (cL _) (by simp),w11,r11,_,fun _ h=>h,⟨_,_,[],by simp,by simp,k11⟩,w12,r12,_,k12.bQ (i:=0) (l:=bv (List.replicate 16 0)) rfl (IZ _) (wM _) (by simp),_,k12.bQ (i:=1) (l:=bv (List.replicate 32 0)) rfl (jY _) (cL _) (by simp),rfl,k12.chg⟩

end Go.Proofs.YtpmhjnhgpplmnaaGreatDoor
end

section
namespace Go.Proofs.YtpmhjnhgpplmnaaGreatDoor
open Go Sx
set_option maxRecDepth 8000

theorem Jp:Tryz.prog.underlying 52=some (.pointer 145):=Tryz.underlying52
theorem GA (C:bH) (sa:Option Addr) (sn sc:Nat) (pa:Option Addr) (pn pc:Nat) (w:World):(Instr.field 47 (.agg (bP C sa sn sc pa pn pc).toArray) 0).run Tryz.prog w=.ok (.int .i64 C.gen) w:=by
 have hu:=Tryz.underlying47
 simp [Instr.field,run_underlying hu,part,jv,bP,fieldPlace,asAgg]

set_option maxHeartbeats 4000000 in
theorem Bg (w:World) (hK:cI w) (hT:iE w) (hE:ql w):Calls Tryz.prog 45 #[] w fun e w'=>e=.returned (.bool true)∧Chg [] w w':=by
 obtain ⟨mI,hI⟩:=eI
 apply nF
 refine (mV w).mono ?_
 rintro e w1 ⟨gs,rfl,k1⟩
 obtain ⟨g1,w2,r2,k2⟩:=k1.aD Gx
 obtain ⟨w3,r3,k3⟩:=k2.stA (i:=1) (v:=cZ dm) rfl (seS _) rfl rfl (j0 _)
 have k3:St w [] w3 [.row 5 1 (.slice (some ⟨gs,0,none⟩) 48 48) 48 (bv (List.replicate 48 0)),.arr g1 44 (cZ dm)]:=k3
 refine ⟨_,_,_,_,rfl,g1,w2,r2,w3,r3,(rW 10000 w3).mono ?_⟩
 rintro e w4 (⟨hbad,_⟩ | ⟨_,gd,rfl,h4⟩)
 · omega
 have h4:=aj.under k3 h4
 refine ⟨_,_,rfl,fun x w'=>x=false∧w'=w4,⟨_,az hI none _ _,fun h=>(by cases h),fun _=>⟨_,vJ .eql (.inl rfl) dkT _ _ _ _,rfl,rfl⟩⟩,?_⟩
 rintro x w5 ⟨rfl,rfl⟩
 refine ⟨fun h=>(by cases h),fun _=>(Jn ⟨#[120]⟩ (e:=21) h4 rfl hK hT hE (by decide)).mono ?_⟩
 rintro e w6 ⟨rfl,c6⟩
 have h6:=h4.same c6
 refine ⟨_,_,rfl,_,h6.rest.ldA (i:=1) (l:=cZ dm) rfl (seA _) (seS _) rfl,(Al ⟨#[120]⟩ (some ⟨gs,0,none⟩) 48 48 (List.replicate 48 0) dm h6 rfl rfl hK hT hE (h6.rest.rd (i:=0) rfl) (by decide) ⟨by decide,by decide⟩).mono ?_⟩
 rintro e w7 ⟨_,_,h7⟩
 obtain ⟨i1,hc,hst,hch,_⟩:=kD (s:=10000) (by decide) (by decide)
 obtain ⟨gr,rfl,q,ok,h7⟩:=(h7 (by decide) Et).2 i1
 have h7:aj w [] w7 gd q.ps (nO 10000) ([.row 5 1 (.slice (some ⟨gs,0,none⟩) 48 48) 48 (bv (List.replicate 48 0)),.arr g1 44 (cZ dm)]++q.T gd gr ⟨KA,fJ dm,[],false⟩):=h7
 have ok:ROk ⟨KA,fJ dm,[],false⟩ q:=ok
 refine ⟨_,_,rfl,fun x w'=>x=false∧w'=w7,⟨_,IB hI (some 21) 21 _ _ _,fun h=>(by simp at h),fun _=>⟨_,az hI none _ _,fun h=>(by cases h),fun _=>⟨_,vJ .eql (.inl rfl) Jp _ _ _ _,fun h=>(by cases h),fun _=>(EK h7).mono ?_⟩⟩⟩,?_⟩
 · rintro e w8 ⟨rfl,rfl⟩
   exact ⟨_,rfl,by rw [hst];rfl,rfl⟩
 rintro x w9 ⟨rfl,rfl⟩
 obtain ⟨g3,w10,r10,k10⟩:=(St.start w9).lit bT [.int .u8 120] (by simp [Value.oneCell']) (by simp)
 obtain ⟨w11,o11,r11,k11,q11⟩:=kP (l:=[120]) k10 (i:=0) rfl
 obtain ⟨g5,w12,r12,k12⟩:=k11.lit bT [.int .u8 121] (by simp [Value.oneCell']) (by simp)
 obtain ⟨w13,o13,r13,k13,q13⟩:=kP (l:=[121]) k12 (i:=1) rfl
 obtain ⟨g7,w14,r14,k14⟩:=k13.lit bT [.int .u8 120] (by simp [Value.oneCell']) (by simp)
 obtain ⟨w15,o15,r15,k15,q15⟩:=kP (l:=[120]) k14 (i:=2) rfl
 obtain ⟨g9,w16,r16,k16⟩:=k15.lit bbT [.slice (some ⟨g3,0,none⟩) 1 1,.slice (some ⟨g5,0,none⟩) 1 1,.slice (some ⟨g7,0,none⟩) 1 1] (by simp [Value.oneCell']) (by simp)
 obtain ⟨m2,r2',hA,hr2K,hS2,hG2,hg2,hsm⟩:=Fk
 have hr16:cH w16 [.slice (some ⟨g3,0,none⟩) 1 1,.slice (some ⟨g5,0,none⟩) 1 1,.slice (some ⟨g7,0,none⟩) 1 1] [[120],[121],[120]]:=ER (q11 _ (k16.holds 0 _ rfl)) (ER (q13 _ (k16.holds 1 _ rfl)) (ER (q15 _ (k16.holds 2 _ rfl)) (NP _)))
 have hap:=mD (some ⟨g9,0,none⟩) 3 3 _ [[120],[121],[120]] none 0 0 [] none 0 0 [] ⟨q,ok,h7.same k16.chg⟩ hK hT (k16.rd (i:=3) rfl) hr16 (by decide) (by decide) (RdE.nil _) (by simp) (by simp) (by decide) (fun _ _=>⟨Cells.nil _ _,rfl,Nat.le_refl _,fun _=>rfl⟩) (by decide) hsm (by omega) (by omega)
 rw [hA] at hap
 refine ⟨fun h=>(by cases h),fun _=>⟨_,_,_,_,r10,_,_,_,_,r11,_,_,_,_,r12,_,_,_,_,r13,_,_,_,_,r14,_,_,_,_,r15,_,_,_,_,r16,hap.mono ?_⟩⟩
 rintro e w17 ⟨rfl,q2,ok2,h17⟩
 have ok2:ROk r2' q2:=ok2
 have h17:aj w [] w17 gd q2.ps m2 ([.row 5 1 (.slice (some ⟨gs,0,none⟩) 48 48) 48 (bv (List.replicate 48 0)),.arr g1 44 (cZ dm)]++q2.T gd gr r2'):=h17
 refine ⟨_,rfl,(Ax ok2 h17).mono ?_⟩
 rintro e w18 ⟨rfl,c18⟩
 have h18:=h17.same c18
 obtain ⟨g11,w19,r19,k19⟩:=(St.start w18).lit bT [.int .u8 121] (by simp [Value.oneCell']) (by simp)
 obtain ⟨w20,o20,r20,k20,q20⟩:=kP (l:=[121]) k19 (i:=0) rfl
 refine ⟨_,rfl,_,_,_,_,r19,_,_,_,_,r20,(sr r2'.K (some ⟨g11,0,none⟩) 1 1 [121] w20 ok2.kl (q20 _ (k20.holds 0 _ rfl)) (by decide)).mono ?_⟩
 rintro e w21 ⟨rfl,c21⟩
 have h21:=(h18.same k20.chg).same c21
 rw [←hr2K] at hg2
 have hget:=DS (idF r2'.K [121]) (by simp [idF]) ok2 h21 hK hT
 rw [hg2] at hget
 refine ⟨_,rfl,hget.mono ?_⟩
 rintro e w22 ⟨ba,bc,rfl,k22⟩
 have h22:=h21.same k22.chg
 refine ⟨_,_,_,_,rfl,_,sG hI none _ _,fun _=>⟨_,sG hI none _ _,fun _=>⟨_,toStr bS bE sS (k22.rd (i:=0) rfl).cells rfl,fun _=>(tU ok2 h22 (by omega)).mono ?_,fun h=>by simp at h⟩,fun h=>(by cases h)⟩,fun h=>(by cases h)⟩
 rintro e w23 ⟨ra,rn,rc,q3,rfl,hq3,ok3,h23⟩
 have hrn:rn=2:=by
   have hr:RdR w23 ra rn rc r2'.S:=⟨h23.rest.rd (i:=0) rfl,fun x _=>aJ x⟩
   have:=hr.num (by decide)
   omega
 subst hrn
 rw [←hq3] at h23
 refine ⟨_,_,_,rfl,fun _=>(iy ok3 h23).mono ?_,fun h=>by simp at h⟩
 rintro e w24 ⟨sa,sc,pa,pc,rfl,k24⟩
 exact ⟨_,rfl,_,GA _ _ _ _ _ _ _ _,by rw [hG2];rfl,(h23.same k24.chg).chg⟩

end Go.Proofs.YtpmhjnhgpplmnaaGreatDoor
end

section
namespace Go.Proofs.YtpmhjnhgpplmnaaGreatDoor
open Go Sx
set_option maxRecDepth 8000

theorem Ns {K:List UInt8} {ls:List (List UInt8)} (h:∀j,j<ls.length→∀k,k<j→idF K (ls.getD j [])=idF K (ls.getD k [])→ls.getD j []=ls.getD k []):NC K ls:=by
 intro a ha b hb e
 obtain ⟨j,hj,rfl⟩:=List.mem_iff_getElem.1 ha
 obtain ⟨k,hk,rfl⟩:=List.mem_iff_getElem.1 hb
 have gj:ls.getD j []=ls[j]:=by simp [List.getD,hj]
 have gk:ls.getD k []=ls[k]:=by simp [List.getD,hk]
 rcases Nat.lt_trichotomy j k with h1 | h1 | h1
 · have:=h k hk j h1 (by rw [gj,gk];exact e.symm)
   rw [gj,gk] at this;exact this.symm
 · subst h1;rfl
 · have:=h j hj k h1 (by rw [gj,gk];exact e)
   rw [gj,gk] at this;exact this

set_option maxHeartbeats 2000000 in
theorem BJ (a:Option Addr) (n c:Nat) (vs:List Value) (ls:List (List UInt8)) (w:World) (hr:Rd w a n c 1 vs) (h2:cH w vs ls) (hn:n≤1000000) (hnc:n≤c) (hls:∀l∈ls,l.length≤67000000):
   Calls Tryz.prog 47 #[.slice a n c] w fun e w'=>∃b,e=.returned (.bool b)∧(b=false→NC KA ls)∧Chg [] w w':=by
 have hvl:vs.length=n:=by have:=hr.len;omega
 have hll:ls.length=n:=by rw [←h2.len];exact hvl
 have hlD:∀i,i<ls.length→(ls.getD i []).length≤67000000:=fun i hi=>by
   have:ls.getD i []=ls[i]:=by simp [List.getD,hi]
   rw [this];exact hls _ (List.getElem_mem hi)
 have kl:KA.length=96:=og _
 apply nD
 refine (mV w).mono ?_
 rintro e w1 ⟨gs,rfl,k1⟩
 obtain ⟨g3,w2,r2,k2⟩:=k1.aD Gx
 obtain ⟨w3,r3,k3⟩:=k2.stA (i:=1) (v:=cZ dm) rfl (seS _) rfl rfl (j0 _)
 refine ⟨_,_,_,_,rfl,g3,w2,r2,w3,r3,(Bu (some ⟨gs,0,none⟩) 48 w3 (k3.rd (i:=0) rfl)).mono ?_⟩
 rintro e w4 ⟨rfl,c4⟩
 have k4:=k3.same c4
 obtain ⟨g5,w5,r5,k5⟩:=k4.aD Fa
 obtain ⟨g6,w6,r6,k6⟩:=k5.aD eD
 obtain ⟨w7,r7,k7⟩:=k6.stA (i:=2) (v:=bv (List.replicate 16 0)) rfl (wM _) (by simp) (by simp) (aO _)
 obtain ⟨w8,r8,k8⟩:=k7.stA (i:=3) (v:=bv (List.replicate 32 0)) rfl (cL _) (by simp) (by simp) (aO _)
 refine ⟨_,_,rfl,g5,w5,r5,g6,w6,r6,w7,r7,w8,r8,_,k8.ldA (i:=3) (l:=bv (List.replicate 32 0)) rfl (jY _) (cL _) (by simp),(uF iG w8 (by decide)).mono ?_⟩
 rintro e w9 ⟨rfl,c9⟩
 obtain ⟨g7,w10,r10,k10⟩:=(k8.same c9).aD kyZ
 obtain ⟨w11,r11,k11⟩:=k10.stA (i:=4) (v:=bv KA) rfl (qg _) (by simp) (by simp [kl]) (aO _)
 have k11:St w [] w11 [.arr g7 41 (bv KA)]:=k11.sub (List.Sublist.cons _ (List.Sublist.cons _ (List.Sublist.cons _ (List.Sublist.cons _ (List.Sublist.refl _)))))
 have ldK:∀ {w':World} {M:List Res},St w [] w' (.arr g7 41 (bv KA)::M)→(Instr.loadAt 41 (.pointer (some ⟨g7,0,none⟩))).run Tryz.prog w'=.ok (.agg (bv KA).toArray) w':=fun k=>k.ldA (i:=0) (l:=bv KA) rfl (tJ _) (qg _) (by simp [kl])
 let D (j:Nat):Prop:=∀k,k<j→idF KA (ls.getD j [])=idF KA (ls.getD k [])→ls.getD j []=ls.getD k []
 refine ⟨_,rfl,g7,w10,r10,w11,r11,fun x w'=>∃i:Nat,x=(i:Int)∧i≤n∧(∀j,j<i→D j)∧St w [] w' [.arr g7 41 (bv KA)],fun x _=>n-x.toNat,⟨0,rfl,by omega,fun j hj=>by omega,k11⟩,?_⟩
 rintro x w12 ⟨i,rfl,hi,hD,k12⟩
 refine ⟨fun hlt=>?_,fun hge=>?_⟩
 rotate_left
 · have hi':i=n:=by simp at hge;omega
   exact ⟨false,rfl,fun _=>Ns fun j hj=>hD j (by omega),k12.chg⟩
 have hi':i<n:=by simp at hlt;omega
 obtain ⟨b,o,pa,pn,pc,hab,hv,hpr,hld⟩:=ixS hr.cells h2 (i:=i) (by omega)
 obtain ⟨p,hp⟩:∃p,ls.getD i []=p:=⟨_,rfl⟩
 have hpl:=hlD i (by omega)
 rw [hp] at hpr hpl
 have hpn:p.length=pn:=hpr.bB
 refine ⟨b,o,hab,by omega,by omega,pa,pn,pc,hld w12 (hr.au k12.chg).cells,by omega,by omega,fun x w'=>∃j:Nat,x=(j:Int)∧j≤i∧(∀k,k<j→idF KA p=idF KA (ls.getD k [])→p=ls.getD k [])∧St w [] w' [.arr g7 41 (bv KA)],fun x _=>i-x.toNat,⟨0,rfl,by omega,fun k hk=>by omega,k12⟩,?_⟩
 rintro x w13 ⟨j,rfl,hj,hE,k13⟩
 refine ⟨fun hlt=>?_,fun hge=>?_⟩
 rotate_left
 · have hj':j=i:=by simp at hge;omega
   subst hj'
   refine ⟨⟨j+1,ay hi' (by omega),by omega,fun k hk=>?_,k13⟩,aB hi' (by omega)⟩
   by_cases hkj:k=j
   · subst hkj
     intro y hy
     show idF KA (ls.getD k [])=_→ls.getD k []=_
     rw [hp];exact hE y hy
   · exact hD k (by omega)
 have hj':j<i:=by simp at hlt;omega
 obtain ⟨b2,o2,qa,qn,qc,hab2,hv2,hqr,hld2⟩:=ixS hr.cells h2 (i:=j) (by omega)
 obtain ⟨p2,hp2⟩:∃p2,ls.getD j []=p2:=⟨_,rfl⟩
 have hql:=hlD j (by omega)
 rw [hp2] at hqr hql
 have hqn:p2.length=qn:=hqr.bB
 have k13d:=k13.drew
 have s13:∃M,St w [] w13.drew (.arr g7 41 (bv KA)::M):=⟨[],k13d⟩
 refine ⟨b2,o2,hab2,by omega,by omega,qa,qn,qc,hld2 w13 (hr.au k13.chg).cells,fun x w'=>(x=false→idF KA p=idF KA p2→p=p2)∧St w [] w' [.arr g7 41 (bv KA)],⟨fun w'=>∃M,St w [] w' (.arr g7 41 (bv KA)::M),s13,_,fun w' ⟨_,k⟩=>toStr bS bE sS (hpr.au k.chg).cells hpn,_,fun w' ⟨_,k⟩=>toStr bS bE sS (hqr.au k.chg).cells hqn,fun _=>⟨_,fun w' ⟨_,k⟩=>ldK k,_,fun w' ⟨_,k⟩=>ldK k,(sr KA pa pn pc p w13.drew kl (hpr.au k13d.chg) (by omega)).mono ?_⟩,fun hsame=>⟨s13,s13,fun _ _=>?_,k13d⟩⟩,?_⟩
 · rintro e w14 ⟨rfl,c14⟩
   have k14:=k13d.same c14
   refine ⟨_,rfl,_,fun _ h=>h,⟨[],k14⟩,(sr KA qa qn qc p2 w14 kl (hqr.au k14.chg) (by omega)).mono ?_⟩
   rintro e w15 ⟨rfl,c15⟩
   have k15:=k14.same c15
   refine ⟨_,rfl,_,fun _ h=>h,⟨[],k15⟩,_,fun w' _=>(LR _ _ _ _ (by simp [idF]) (by simp [idF]) w').1,fun hx he=>?_,k15⟩
   simp only [decide_eq_false_iff_not] at hx
   exact absurd he hx
 · rw [ByteArray.toList_eq,ByteArray.toList_eq] at hsame
   simpa using hsame
 · rintro x w16 ⟨hx,k16⟩
   refine ⟨fun _=>⟨true,rfl,(fun h=>by cases h),k16.chg⟩,fun hf=>⟨⟨j+1,ay hj' (by omega),by omega,fun k hk=>?_,k16⟩,aB hj' (by omega)⟩⟩
   by_cases hkj:k=j
   · subst hkj;rw [hp2];exact hx hf
   · exact hE k (by omega)

section
variable {w0 w w':World} {N:List Res} {gd gr:Nat} {m:ah} {r:gx} {q:uJ}
set_option maxHeartbeats 1000000 in
theorem Bo (a:Option Addr) (n c:Nat) (vs:List Value) (ls:List (List UInt8)) (ok:ROk r q) (h:aj w0 [] w gd q.ps m (N++q.T gd gr r)) (hK:cI w0) (hT:iE w0) (hr:Rd w a n c 1 vs) (h2:cH w vs ls) (hn:n≤1000000) (hls:∀l∈ls,l.length≤67000000)
   (hg:∀p∈ls,getM r m (idF r.K p)=(none,p)):Calls Tryz.prog 50 #[pV gr,.slice a n c] w fun e w'=>e=.returned (.bool true)∧Chg [] w w':=by
 obtain ⟨mI,hI⟩:=eI
 have hvl:vs.length=n:=by have:=hr.len;omega
 have hll:ls.length=n:=by rw [←h2.len];exact hvl
 apply nB
 refine ⟨fun x w'=>∃i:Nat,x=(i:Int)∧i≤n∧Chg [] w w',fun x _=>n-x.toNat,⟨0,rfl,by omega,Chg.refl _ _⟩,?_⟩
 rintro x w1 ⟨i,rfl,hi,c1⟩
 refine ⟨fun hlt=>?_,fun _=>⟨rfl,c1⟩⟩
 have hi':i<n:=by simp at hlt;omega
 obtain ⟨b,o,pa,pn,pc,hab,hv,hpr,hld⟩:=ixS hr.cells h2 (i:=i) (by omega)
 obtain ⟨p,hp⟩:∃p,ls.getD i []=p:=⟨_,rfl⟩
 have hpm:p∈ls:=by
   have:ls.getD i []=ls[i]:=by simp [List.getD,show i<ls.length by omega]
   rw [←hp,this];exact List.getElem_mem _
 rw [hp] at hpr
 have hpl:=hls p hpm
 have hpn:p.length=pn:=hpr.bB
 refine ⟨b,o,hab,by omega,by omega,pa,pn,pc,hld w1 (hr.au c1).cells,(Ax ok (h.same c1)).mono ?_⟩
 rintro e w2 ⟨rfl,c2⟩
 have c2:=c1.trans c2
 refine ⟨_,rfl,(sr r.K pa pn pc p w2 ok.kl (hpr.au c2) (by omega)).mono ?_⟩
 rintro e w3 ⟨rfl,c3⟩
 have c3:=c2.trans c3
 have hget:=DS (idF r.K p) (by simp [idF]) ok (h.same c3) hK hT
 rw [hg p hpm] at hget
 refine ⟨_,rfl,hget.mono ?_⟩
 rintro e w4 ⟨ba,bc,rfl,k4⟩
 have c4:=c3.trans k4.chg
 refine ⟨_,_,_,_,rfl,fun x w'=>x=false∧w'=w4,⟨_,az hI none _ _,fun h=>(by cases h),fun _=>⟨_,toStr bS bE sS (k4.rd (i:=0) rfl).cells rfl,_,toStr bS bE sS (hpr.au c4).cells hpn,by simp,rfl⟩⟩,?_⟩
 rintro x w5 ⟨rfl,rfl⟩
 exact ⟨fun h=>(by cases h),fun _=>⟨⟨i+1,ay hi' (by omega),by omega,c4⟩,aB hi' (by omega)⟩⟩
end

end Go.Proofs.YtpmhjnhgpplmnaaGreatDoor
end

section
namespace Go.Proofs.YtpmhjnhgpplmnaaGreatDoor
open Go Sx
set_option maxRecDepth 8000

theorem AF {r:gx} {m:ah} {ls:List (List UInt8)} {snaps:List cU} {drop:List Int} (hx:(aH r.K r.S drop ls).length≤4096) (hp:r.C.aq.length≤1024):Cnt 7000 m (cB r m ls snaps drop).1.1:=by
 unfold cB
 split
 · exact (Cnt.refl m).mono (by decide)
 split
 · exact (Cnt.refl m).mono (by decide)
 have hw:=y8 r.K (bR r.C snaps drop (decide (0<(aH r.K r.S drop ls).length))) (bt drop r.C.aq) r.C.next (aH r.K r.S drop ls) m hx
 split
 · refine (hw.trans (k:=2) ?_).mono (by decide)
   show Cnt 2 _ (dP _ _ _ _).1
   unfold dP
   split
   · exact (Cnt.refl _).mono (by decide)
   · split
     · exact (kJ [aA r.C.next] _).trans (kJ [tN] _)
     · exact (kJ [tN] _).mono (by decide)
 · refine (hw.trans (kJ _ _)).mono ?_
   have:=uX drop r.C.aq
   simp
   omega

def kK:Nm:=[102,105,114,115,116]
def snN (n:Nm):cU:=⟨n,0,0,0,List.replicate 32 0,by simp⟩
theorem FA:Lq [snN kK]:=⟨by decide,by decide,by decide,by simp [snN]⟩
theorem B2:Tryz.prog.built 89=fun parts=>Instr.fill (fun i=>(#[(0,1),(1,1),(2,1),(3,1),(4,32)]:Array (Nat×Nat))[i]?) (eE (snN [])).toArray parts:=by kernel_rfl
theorem AG (n:Nm) (w:World):(Instr.build 89 #[(0,.string ⟨n.toArray⟩)]).run Tryz.prog w=.ok (.agg (eE (snN n)).toArray) w:=by
 apply run_build
 rw [B2]
 show Instr.fill _ _ [(0,_)]=_
 rw [aC (off:=0) (sz:=1) rfl rfl (by simp [fk])]
 rfl

noncomputable def xs1 (ls:List (List UInt8)):List Itm:=aH KA [] [] ls
noncomputable def PL1 (ls:List (List UInt8)):PkL:=dB [] [] 0 (xs1 ls)
noncomputable def C1 (ls:List (List UInt8)):bH:=cG KA (fJ dm) [] [snN kK] [] (xs1 ls)
noncomputable def S1 (ls:List (List UInt8)):Refs:=gE (aV [] []) (aQ 0 16 (xs1 ls))
noncomputable def m1 (ls:List (List UInt8)):ah:=(cB ⟨KA,fJ dm,[],false⟩ (nO 1048576) ls [snN kK] []).1.1
structure Mk (ls:List (List UInt8)):Prop where
 eq:cB ⟨KA,fJ dm,[],false⟩ (nO 1048576) ls [snN kK] []=((m1 ls,none),⟨KA,C1 ls,S1 ls,false⟩)
 small:bY (xs1 ls)
 calm:Calm (m1 ls)
 held:jE KA kfA (C1 ls) (S1 ls) (PL1 ls) ls 50301 4 1048576 (m1 ls)
 cnt:(m1 ls).steps≤8000∧(m1 ls).chs.length≤8000
theorem xg {ls:List (List UInt8)} (hl:ls.length≤160) (ht:ls.flatten.length≤17000):Mk ls:=by
 obtain ⟨_,hc,hst,hch,hh⟩:=kD (s:=1048576) (by decide) (by decide)
 have hn:=BQ hh rfl (by decide) (by decide) (by decide) (ls:=ls) (snaps:=[snN kK]) [] hl ht FA (by decide) (by decide) (by decide)
 obtain ⟨h1,h2,h3,h4⟩:=mH hh hc hn (xs:=xs1 ls) rfl
 have hcn:=AF (r:=⟨KA,fJ dm,[],false⟩) (m:=nO 1048576) (ls:=ls) (snaps:=[snN kK]) (drop:=[]) hn.small.num (by decide)
 exact ⟨Prod.ext (Prod.ext rfl h1) h2,hn.small,h3,h4,by have:=hcn.1;show (m1 ls).steps≤_;unfold m1;omega,by have:=hcn.2;show (m1 ls).chs.length≤_;unfold m1;omega⟩

set_option maxHeartbeats 2000000 in
theorem xE (x:zz) (w:World) (hK:cI w) (hT:iE w) (hE:ql w) (h:yN w x) (hl:x.lp.length≤160) (ht:x.lp.flatten.length≤17000):
   Calls Tryz.prog 48 #[.agg (lQ x).toArray] w fun e w'=>∃gd gr,e=.returned (.tuple #[pV gd,pV gr])∧yJ w w' gd gr (m1 x.lp) ⟨KA,C1 x.lp,S1 x.lp,false⟩ []:=by
 obtain ⟨mI,hI⟩:=eI
 obtain ⟨l1,_⟩:=h.lens
 have hs:=xg hl ht
 apply jF
 obtain ⟨g1,w1,r1,k1⟩:=(St.start w).cz (P:=Tryz.prog) 106 (lQ x)
 refine ⟨g1,w1,r1,(mV w1).mono ?_⟩
 rintro e w2 ⟨gs,rfl,k2⟩
 have k2:=Sx.St.cq (N:=[]) (by rw [List.append_nil];exact k1) k2
 obtain ⟨g4,w3,r3,k3⟩:=k2.aD Gx
 obtain ⟨w4,r4,k4⟩:=k3.stA (i:=2) (v:=cZ dm) rfl (seS _) rfl rfl (j0 _)
 have k4:St w [] w4 [.arr g1 106 (lQ x),.row 5 1 (.slice (some ⟨gs,0,none⟩) 48 48) 48 (bv (List.replicate 48 0)),.arr g4 44 (cZ dm)]:=k4
 refine ⟨_,_,_,_,rfl,g4,w3,r3,w4,r4,(rW 1048576 w4).mono ?_⟩
 rintro e w5 (⟨hbad,_⟩ | ⟨_,gd,rfl,h5⟩)
 · omega
 have h5:=aj.under k4 h5
 refine ⟨_,_,rfl,fun x w'=>x=false∧w'=w5,⟨_,az hI none _ _,fun h=>(by cases h),fun _=>⟨_,vJ .eql (.inl rfl) dkT _ _ _ _,rfl,rfl⟩⟩,?_⟩
 rintro y w6 ⟨rfl,rfl⟩
 refine ⟨fun h=>(by cases h),fun _=>⟨_,h5.rest.ldA (i:=2) (l:=cZ dm) rfl (seA _) (seS _) rfl,(Al ⟨#[120]⟩ (some ⟨gs,0,none⟩) 48 48 (List.replicate 48 0) dm h5 rfl rfl hK hT hE (h5.rest.rd (i:=1) rfl) (by decide) ⟨by decide,by decide⟩).mono ?_⟩⟩
 rintro e w7 ⟨_,_,h7⟩
 obtain ⟨i1,hc,hst,hch,_⟩:=kD (s:=1048576) (by decide) (by decide)
 obtain ⟨gr,rfl,q,ok,h7⟩:=(h7 (by decide) Et).2 i1
 have h7:aj w [] w7 gd q.ps (nO 1048576) ([.arr g1 106 (lQ x),.row 5 1 (.slice (some ⟨gs,0,none⟩) 48 48) 48 (bv (List.replicate 48 0)),.arr g4 44 (cZ dm)]++q.T gd gr ⟨KA,fJ dm,[],false⟩):=h7
 have ok:ROk ⟨KA,fJ dm,[],false⟩ q:=ok
 obtain ⟨g8,w8,r8,k8⟩:=(St.start w7).Nn snT (eE (snN kK)) (fk _) (by decide)
 have h8:=h7.same k8.chg
 have hrs:RdS w8 (some ⟨g8,0,none⟩) 1 1 [snN kK]:=⟨by have:=k8.rd (i:=0) rfl;simpa using this,fun x _=>fk x⟩
 have hap:=mD x.pa x.pn x.pc x.vp x.lp (some ⟨g8,0,none⟩) 1 1 [snN kK] none 0 0 [] ⟨q,ok,h8⟩ hK hT (h.rp.au h8.chg) (h.rp2.au h8.chg) (fun p hp=>by have:=rM hp;omega) (by omega) hrs (by simp [snN,kK]) (by simp [snN]) (by decide) (fun _ _=>⟨Cells.nil _ _,rfl,Nat.le_refl _,fun _=>rfl⟩) (by decide) hs.small (by omega) (by omega)
 rw [hs.eq] at hap
 refine ⟨_,_,rfl,fun y w'=>y=false∧yJ w w' gd gr (m1 x.lp) ⟨KA,C1 x.lp,S1 x.lp,false⟩ [],⟨_,az hI none _ _,fun h=>(by cases h),fun _=>⟨_,vJ .eql (.inl rfl) Jp _ _ _ _,fun h=>(by cases h),fun _=>⟨_,_,_,h7.rest.ldL (i:=0) (o:=0) rfl (zn _) rfl rfl,_,AG kK w7,_,_,_,w8,r8,hap.mono ?_⟩⟩⟩,?_⟩
 · rintro e w9 ⟨rfl,q2,ok2,h9⟩
   exact ⟨_,rfl,_,az hI none _ _,rfl,q2,ok2,h9.tQ (List.sublist_append_right _ _)⟩
 · rintro y w10 ⟨rfl,h10⟩
   exact ⟨fun h=>(by cases h),fun _=>⟨gd,gr,rfl,h10⟩⟩

end Go.Proofs.YtpmhjnhgpplmnaaGreatDoor
end

section
namespace Go.Proofs.YtpmhjnhgpplmnaaGreatDoor
open Go Sx
set_option maxRecDepth 8000

theorem mo {α:Type} [DecidableEq α]:∀ {l m:List α},l.Nodup→(∀x∈l,x∈m)→l.length≤m.length
 | [],_,_,_=>by simp
 | x::l,m,hn,h=>by
   obtain ⟨h1,h2⟩:=List.nodup_cons.1 hn
   have hm:=h x (by simp)
   have ih:=mo (l:=l) (m:=m.erase x) h2 fun y hy=>by
     have hne:y≠x:=fun e=>h1 (e ▸ hy)
     exact (List.mem_erase_of_ne hne).2 (h y (by simp [hy]))
   have:=List.length_erase_of_mem hm
   have:=List.length_pos_of_mem hm
   rw [List.length_cons]
   omega
def oQ (acc:List (List UInt8)) (p:List UInt8):List (List UInt8):=if acc.contains p then acc else acc++ [p]
def fH (ls:List (List UInt8)):List (List UInt8):=ls.foldl oQ []
theorem HB (ls:List (List UInt8)) (p:List UInt8):fH (ls++ [p])=oQ (fH ls) p:=by simp [fH]
theorem uf:∀(ls acc:List (List UInt8)),acc.Nodup→(ls.foldl oQ acc).Nodup∧∀p,p∈ls.foldl oQ acc↔p∈acc∨p∈ls
 | [],acc,h=>⟨h,by simp⟩
 | q::ls,acc,h=>by
   have h1:(oQ acc q).Nodup∧∀p,p∈oQ acc q↔p∈acc∨p=q:=by
     unfold oQ
     by_cases hc:acc.contains q=true
     · rw [if_pos hc]
       rw [List.contains_iff_mem] at hc
       exact ⟨h,fun p=>⟨.inl,fun h=>h.elim id (fun e=>e ▸ hc)⟩⟩
     · rw [if_neg hc]
       rw [List.contains_iff_mem] at hc
       refine ⟨?_,by simp⟩
       rw [List.nodup_append]
       refine ⟨h,by simp,fun a ha b hb=>?_⟩
       simp only [List.mem_singleton] at hb
       rintro rfl
       exact hc (hb ▸ ha)
   obtain ⟨h2,h3⟩:=uf ls (oQ acc q) h1.1
   refine ⟨h2,fun p=>?_⟩
   show p∈List.foldl oQ (oQ acc q) ls↔_
   rw [h3,h1.2,List.mem_cons,or_assoc]
theorem kg (ls:List (List UInt8)) (p:List UInt8):p∈fH ls↔p∈ls:=by
 have:=(uf ls [] List.nodup_nil).2 p
 simpa [fH] using this
theorem qK (ls:List (List UInt8)):(fH ls).Nodup:=(uf ls [] List.nodup_nil).1
theorem Iu (ls:List (List UInt8)) (p:List UInt8):(fH (ls++ [p])).length=(fH ls).length+if ls.contains p then 0 else 1:=by
 rw [HB,oQ]
 have:(fH ls).contains p=ls.contains p:=by rw [Bool.eq_iff_iff,List.contains_iff_mem,List.contains_iff_mem,kg]
 rw [this]
 split<;>simp

section
variable {K:List UInt8} {ps:List PkD} {S:Refs} {PL:PkL} {U:List (List UInt8)}
theorem RL.count (h:RL K ps S PL U) (hnc:NC K U) (hall:∀p∈U,∃x∈S,x.id=idF K p):S.length=(fH U).length:=by
 have nd1:(S.map (·.id)).Nodup:=List.pairwise_map.2 ((x9 h.asc).imp fun h=>h)
 have nd2:((fH U).map (idF K)).Nodup:=by
   unfold List.Nodup
   rw [List.pairwise_map]
   refine List.Pairwise.imp_of_mem (fun {a b} ha hb hab e=>hab (hnc a ((kg U a).1 ha) b ((kg U b).1 hb) e)) (qK U)
 have l1:=mo nd1 (m:=(fH U).map (idF K)) fun i hi=>by
   obtain ⟨x,hx,rfl⟩:=List.mem_map.1 hi
   obtain ⟨_,_,p,hp,_,e,_⟩:=h.at_ hx
   exact List.mem_map.2 ⟨p,(kg U p).2 hp,e.symm⟩
 have l2:=mo nd2 (m:=S.map (·.id)) fun i hi=>by
   obtain ⟨p,hp,rfl⟩:=List.mem_map.1 hi
   obtain ⟨x,hx,e⟩:=hall p ((kg U p).1 hp)
   exact List.mem_map.2 ⟨x,hx,e⟩
 simp only [List.length_map] at l1 l2
 omega
theorem counts (PL:PkL):((PL.map (oH K)).map (·.count)).sum=((oR PL).length:Int):=by
 rw [yB]
 induction PL with
 | nil=>rfl
 | cons q PL ih=>
   simp only [List.map_cons,List.sum_cons,Int.natCast_add]
   rw [ih]
   rfl
end
theorem tB (S:Refs):aV S []=S:=List.filter_eq_self.2 fun _ _=>rfl

structure Lb (lp ll:List (List UInt8)) (m2:ah) (C2:bH) (S2:Refs) (m3:ah) (C3:bH) (S3:Refs):Prop where
 eq2:cB ⟨KA,C1 lp,S1 lp,false⟩ (m1 lp) ll [] []=((m2,none),⟨KA,C2,S2,false⟩)
 eq3:cB ⟨KA,C2,S2,false⟩ m2 (lp++ll) [] []=((m3,none),⟨KA,C3,S3,false⟩)
 M6:bY (aH KA (S1 lp) [] ll)
 Mz:bY (aH KA S2 [] (lp++ll))
 cnt:m2.steps≤16000∧m2.chs.length≤16000
 NQ:S2.length=(fH (lp++ll)).length
 NJ:S3.length=(fH (lp++ll)).length
 get:∀p∈lp++ll,getM ⟨KA,C2,S2,false⟩ m2 (idF KA p)=(none,p)
 used:(C2.aq.map (·.count)).sum=((fH (lp++ll)).length:Int)
 pos:∀p∈C2.aq,0≤p.count
 aq:C3.aq.length=C2.aq.length
 gen:C3.gen=4
theorem C5 {lp ll:List (List UInt8)} (h1:lp.length≤40) (h2:ll.length≤40) (h3:lp.flatten.length+ll.flatten.length≤8192) (hnc:NC KA (lp++ll)):∃m2 C2 S2 m3 C3 S3,Lb lp ll m2 C2 S2 m3 C3 S3:=by
 have hs:=xg (ls:=lp) (by omega) (by omega)
 have hpl1:(PL1 lp).length≤1:=uR [] [] 0 (xs1 lp)
 have hn1:(C1 lp).next≤1:=by show (if xs1 lp=[] then (0:Int) else 0+1)≤1;split<;>omega
 have hn:=BQ hs.held rfl (by show (1:Int)+1<_;decide) (by omega) (by omega) (ls:=ll) (snaps:=[]) [] (by omega) (by omega) Cd (by decide) (by decide) (by decide)
 obtain ⟨xs2,hxs2⟩:∃xs2,aH KA (S1 lp) [] ll=xs2:=⟨_,rfl⟩
 obtain ⟨a1,a2,a3,a4⟩:=mH hs.held hs.calm hn hxs2
 have hcn:=AF (r:=⟨KA,C1 lp,S1 lp,false⟩) (m:=m1 lp) (ls:=ll) (snaps:=[]) (drop:=[]) hn.small.num (by
   obtain ⟨L,Z,ro,_⟩:=hs.held
   exact (bh ro.chk).2.2.2)
 obtain ⟨⟨⟨m2,e2⟩,r2⟩,hA⟩:∃A,cB ⟨KA,C1 lp,S1 lp,false⟩ (m1 lp) ll [] []=A:=⟨_,rfl⟩
 rw [hA] at a1 a2 a3 a4 hcn
 simp only at a1 a2 a3 a4 hcn
 subst a1 a2
 obtain ⟨PL2,hPL2⟩:∃PL2,dB (PL1 lp) [] (C1 lp).next xs2=PL2:=⟨_,rfl⟩
 obtain ⟨S2,hS2⟩:∃S2,gE (aV (S1 lp) []) (aQ (C1 lp).next 16 xs2)=S2:=⟨_,rfl⟩
 obtain ⟨C2,hC2⟩:∃C2,cG KA (C1 lp) (PL1 lp) [] [] xs2=C2:=⟨_,rfl⟩
 have hp2:C2.aq=PL2.map (oH KA):=by rw [←hC2,←hPL2];rfl
 have hpl2:PL2.length≤2:=by rw [←hPL2];have:=uR (PL1 lp) [] (C1 lp).next xs2;omega
 have hset2:C2.set=dm:=by rw [←hC2];rfl
 have hgen2:C2.gen=3:=by rw [←hC2];rfl
 have hnx2:C2.next≤2:=by rw [←hC2];show (if xs2=[] then (C1 lp).next else (C1 lp).next+1)≤2;split<;>omega
 have hg1:cQ (C1 lp).next=true:=by
   obtain ⟨L,Z,ro,_⟩:=hs.held
   have:=bh ro.chk
   exact dy.2 this.2.1
 have all2:∀p∈lp++ll,∃x∈S2,x.id=idF KA p:=by
   obtain ⟨L,Z,ro,_⟩:=hs.held
   have th:=ro.rl.there [] ll hg1 hn.small
   rw [hxs2,hS2] at th
   intro p hp
   rcases List.mem_append.1 hp with hp | hp
   · obtain ⟨_,hc,_,_,hh0⟩:=kD (s:=1048576) (by decide) (by decide)
     obtain ⟨_,_,ro0,_⟩:=hh0
     obtain ⟨x,hx,e⟩:=(ro0.rl.there [] lp (n:=0) (by decide) hs.small).1 p hp
     exact ⟨x,th.2 rfl x hx,e⟩
   · exact th.1 p hp
 rw [hPL2,hS2,hC2] at a4
 rw [hS2,hC2] at hA
 have hu2:lp++ll=lp++ll:=rfl
 have hn3:=BQ a4 hset2 (by omega) (by omega) (by omega) (ls:=lp++ll) (snaps:=[]) [] (by rw [List.length_append];omega) (by rw [List.flatten_append,List.length_append];omega) Cd (by decide) (by decide) (by decide)
 have hxs3:aH KA S2 [] (lp++ll)=[]:=by
   have hf:=kB KA S2 [] (lp++ll)
   rw [List.eq_nil_iff_forall_not_mem]
   intro x hx
   obtain ⟨p,hp,rfl,hno⟩:=hf.src x hx
   obtain ⟨y,hy,e⟩:=all2 p hp
   obtain ⟨L,Z,ro,_⟩:=a4
   have:iM S2 [] (idF KA p)=true:=ro.rl.stays.2 ⟨y,by rw [tB];exact hy,e⟩
   have hno:iM S2 [] (idF KA p)=false:=hno
   rw [hno] at this;cases this
 obtain ⟨b1,b2,b3,b4⟩:=mH a4 a3 hn3 hxs3
 obtain ⟨⟨⟨m3,e3⟩,r3⟩,hB⟩:∃A,cB ⟨KA,C2,S2,false⟩ m2 (lp++ll) [] []=A:=⟨_,rfl⟩
 rw [hB] at b1 b2 b3 b4
 simp only at b1 b2 b3 b4
 subst b1 b2
 have eS3:gE (aV S2 []) (aQ C2.next 16 [])=S2:=by rw [tB];rfl
 have eN:dB PL2 [] C2.next []=PL2:=by
   unfold dB
   rw [if_pos rfl,List.append_nil]
   exact List.filter_eq_self.2 fun _ _=>rfl
 obtain ⟨L,Z,ro,sv⟩:=a4
 have hcount:=ro.rl.count hnc all2
 have hperm:=ro.rl.refs.length_eq
 have hused:=counts (K:=KA) PL2
 refine ⟨m2,C2,S2,m3,_,_,hA,hB,hn.small,hn3.small,⟨by have:=hcn.1;have:=hs.cnt.1;omega,by have:=hcn.2;have:=hs.cnt.2;omega⟩,hcount,by rw [eS3];exact hcount,fun p hp=>?_,?_,fun p hp=>?_,?_,?_⟩
 · obtain ⟨p',hp',e,hg⟩:=F6 ro sv a3.d (all2 p hp)
   rw [hg,hnc p' hp' p hp e]
 · rw [hp2,hused,←hperm,hcount]
 · rw [hp2] at hp
   obtain ⟨q,_,rfl⟩:=List.mem_map.1 hp
   show (0:Int)≤(q.2.length:Int)
   omega
 · show ((dB PL2 [] C2.next []).map (oH KA)).length=_
   rw [eN,hp2]
 · show C2.gen+1=4
   omega

end Go.Proofs.YtpmhjnhgpplmnaaGreatDoor
end

section
namespace Go.Proofs.YtpmhjnhgpplmnaaGreatDoor
open Go Sx
set_option maxRecDepth 8000

theorem cH.one {w:World} {vs:List Value} {ls:List (List UInt8)} (h:cH w vs ls):∀u∈vs,u.oneCell'=true:=fun u hu=>by
 obtain ⟨i,hi⟩:=List.getElem?_of_mem hu
 have hl:=(List.getElem?_eq_some_iff.1 hi).1
 obtain ⟨a,n,c,hv,_⟩:=h.rd i (by have:=h.len;omega)
 rw [hi] at hv
 cases hv
 rfl
theorem cH.app {w:World} {vs us:List Value} {ls ms:List (List UInt8)} (h:cH w vs ls) (h2:cH w us ms):cH w (vs++us) (ls++ms):=by
 refine ⟨by rw [List.length_append,List.length_append,h.len,h2.len],fun i hi=>?_⟩
 by_cases hl:i<ls.length
 · obtain ⟨a,n,c,hv,hr⟩:=h.rd i hl
   exact ⟨a,n,c,by rw [List.getElem?_append_left (by have:=h.len;omega)];exact hv,by rw [List.getD,List.getElem?_append_left hl];exact hr⟩
 · rw [List.length_append] at hi
   obtain ⟨a,n,c,hv,hr⟩:=h2.rd (i-ls.length) (by omega)
   exact ⟨a,n,c,by rw [List.getElem?_append_right (by have:=h.len;omega),h.len];exact hv,by rw [List.getD,List.getElem?_append_right (by omega)];exact hr⟩
theorem uW (C:bH) (sa:Option Addr) (sn sc:Nat) (pa:Option Addr) (pn pc:Nat) (w:World):(Instr.field 47 (.agg (bP C sa sn sc pa pn pc).toArray) 4).run Tryz.prog w=.ok (.slice pa pn pc) w:=by
 have hu:=Tryz.underlying47
 simp [Instr.field,run_underlying hu,part,Hw,bP,cZ,fieldPlace,asAgg]

theorem Av {x:zz} {w:World} (h:yN w x) (l:Jy x):∃g w1 va vc w2 a c w3,(Instr.buildSlice 24 0 #[]).run Tryz.prog w=.ok (.slice (some ⟨g,0,none⟩) 0 0) w1∧
   (Builtin.append_ #[24,24] 24 #[.slice (some ⟨g,0,none⟩) 0 0,.slice x.pa x.pn x.pc]).run Tryz.prog w1=.ok (.slice va x.pn vc) w2∧
   (Builtin.append_ #[24,24] 24 #[.slice va x.pn vc,.slice x.la x.ln x.lc]).run Tryz.prog w2=.ok (.slice a (x.pn+x.ln) c) w3∧Chg [] w w1∧Chg [] w w2∧St w [] w3 [.row 26 1 (.slice a (x.pn+x.ln) c) (x.pn+x.ln) (x.vp++x.vl)]∧x.pn+x.ln≤c:=by
 obtain ⟨l1,l2,_⟩:=h.lens
 have hp:=l.p
 have hl:=l.l
 obtain ⟨g,w1,r1,k1⟩:=(St.start w).JV bbT
 have k1:St w [] w1 [.row 26 1 (.slice (some ⟨g,0,none⟩) 0 0) 0 []]:=k1
 obtain ⟨va,vc,w2,r2,k2,_,_⟩:=k1.append (i:=0) (ty:=24) bbT rfl (h.rp.au k1.chg) h.rp2.one (by omega) (by rw [show maxLen=9223372036854775807 from rfl];omega)
 rw [Nat.zero_add] at r2 k2
 have k2:St w [] w2 [.row 26 1 (.slice va x.pn vc) x.pn x.vp]:=k2
 obtain ⟨a,c,w3,r3,k3,_,hle⟩:=k2.append (i:=0) (ty:=24) bbT rfl (h.rl.au k2.chg) h.rl2.one (by omega) (by rw [show maxLen=9223372036854775807 from rfl];omega)
 exact ⟨g,w1,va,vc,w2,a,c,w3,r1,r2,r3,k1.chg,k2.chg,k3,hle⟩

set_option maxHeartbeats 8000000 in
theorem vX (x:zz) (w:World) (hK:cI w) (hT:iE w) (hE:ql w) (h:yN w x):Calls Tryz.prog 8 #[.agg (lQ x).toArray] w fun e w'=>e=.returned (.bool true)∧Chg [] w w':=by
 obtain ⟨mI,hI⟩:=eI
 obtain ⟨l1,l2,_⟩:=h.lens
 apply kN
 obtain ⟨g1,w1,r1,k1⟩:=(St.start w).cz (P:=Tryz.prog) 106 (lQ x)
 have k1:St w [] w1 [.arr g1 106 (lQ x)]:=k1
 refine ⟨g1,w1,r1,(Bg w1 (hK.au k1.chg) (hT.au k1.chg) (hE.au k1.chg)).mono ?_⟩
 rintro e w2 ⟨rfl,c2⟩
 have k2:=k1.same c2
 have k2d:=k2.drew
 refine ⟨_,rfl,fun h=>(by cases h),fun _=>⟨fun y w'=>(y=false→Jy x∧NC KA (x.lp++x.ll))∧St w [] w' [.arr g1 106 (lQ x)],⟨fun w'=>∃M,St w [] w' (.arr g1 106 (lQ x)::M),⟨[],k2d⟩,_,fun w' ⟨_,k⟩=>k.ldA (i:=0) (l:=lQ x) rfl (ctA _) (ctS _) rfl,(BR x w2.drew (h.au k2d.chg)).mono ?_⟩,?_⟩⟩
 · rintro e w3 ⟨b,rfl,hb,c3⟩
   have k3:=k2d.same c3
   have s3:∃M,St w [] w3 (.arr g1 106 (lQ x)::M):=⟨[],k3⟩
   refine ⟨b,rfl,_,fun _ h=>h,s3,fun _=>⟨s3,s3,s3,s3,fun h=>(by cases h),k3⟩,fun hbf=>?_⟩
   have hl:=hb hbf
   obtain ⟨g,w4,va,vc,w5,a,c,w6,r4,r5,r6,s4,s5,kA,hle⟩:=Av (h.au k3.chg) hl
   have k6:=k3.same kA.chg
   refine ⟨_,_,_,fun w' ⟨_,k⟩=>k.ldL (i:=0) (o:=0) rfl (zn _) rfl rfl,_,_,_,fun w' ⟨_,k⟩=>k.ldL (i:=0) (o:=1) rfl (zn _) rfl rfl,_,_,_,w4,r4,_,fun _ h=>h,⟨_,k3.same s4⟩,_,_,_,w5,r5,_,fun _ h=>h,⟨_,k3.same s5⟩,_,_,_,w6,r6,_,fun _ h=>h,⟨_,k6⟩,(BJ a (x.pn+x.ln) c _ (x.lp++x.ll) w6 (kA.rd (i:=0) rfl) ((h.rp2.app h.rl2).au k6.chg) (by have:=hl.p;have:=hl.l;omega) hle (fun p hp=>?_)).mono ?_⟩
   · have:=rM hp
     rw [List.flatten_append,List.length_append] at this
     have:=hl.s
     omega
   · rintro e w7 ⟨b7,rfl,hb7,c7⟩
     have k7:=k6.same c7
     exact ⟨b7,rfl,_,fun _ h=>h,⟨_,k7⟩,fun hf=>⟨hl,hb7 hf⟩,k7⟩
 rintro y w8 ⟨hy,k8⟩
 refine ⟨fun _=>⟨rfl,k8.chg⟩,fun hyf=>?_⟩
 obtain ⟨hl,hnc⟩:=hy hyf
 have hp:=hl.p
 have hll:=hl.l
 have hs:=hl.s
 have h8:=h.au k8.chg
 have hK8:=hK.au k8.chg
 have hT8:=hT.au k8.chg
 have hE8:=hE.au k8.chg
 have hch:∀p∈x.lp++x.ll,p.length≤67000000:=fun p hp=>by
   have:=rM hp
   rw [List.flatten_append,List.length_append] at this
   omega
 obtain ⟨m2,C2,S2,m3,C3,S3,P⟩:=C5 hp hll hs hnc
 have hcnt:=(xg (ls:=x.lp) (by omega) (by omega)).cnt
 refine ⟨_,k8.ldA (i:=0) (l:=lQ x) rfl (ctA _) (ctS _) rfl,(xE x w8 hK8 hT8 hE8 h8 (by omega) (by omega)).mono ?_⟩
 rintro e w9 ⟨gd,gr,rfl,q,ok,h9⟩
 have k9:=k8.same h9.chg
 refine ⟨_,_,rfl,fun y w'=>y=false∧w'=w9,⟨_,vJ .eql (.inl rfl) dkT _ _ _ _,fun h=>(by cases h),fun _=>⟨_,vJ .eql (.inl rfl) Jp _ _ _ _,rfl,rfl⟩⟩,?_⟩
 rintro y w10 ⟨rfl,rfl⟩
 refine ⟨fun h=>(by cases h),fun _=>?_⟩
 have k10d:=k9.drew
 have h10d:=h8.au (h9.chg.trans (Chg.drew [] w10))
 obtain ⟨g,w11,va,vc,w12,a,c,w13,r11,r12,r13,s11,s12,kA,hle⟩:=Av h10d hl
 refine ⟨fun w'=>∃M,St w [] w' (.arr g1 106 (lQ x)::M),⟨_,k10d⟩,_,_,_,fun w' ⟨_,k⟩=>k.ldL (i:=0) (o:=0) rfl (zn _) rfl rfl,_,_,_,fun w' ⟨_,k⟩=>k.ldL (i:=0) (o:=1) rfl (zn _) rfl rfl,_,_,_,w11,r11,_,fun _ h=>h,⟨_,k10d.same s11⟩,_,_,_,w12,r12,_,fun _ h=>h,⟨_,k10d.same s12⟩,_,_,_,w13,r13,_,fun _ h=>h,⟨_,k10d.same kA.chg⟩,?_⟩
 obtain ⟨R,hR⟩:∃R,Res.row 26 1 (.slice a (x.pn+x.ln) c) (x.pn+x.ln) (x.vp++x.vl)=R:=⟨_,rfl⟩
 have h13:aj w8 [] w13 gd q.ps (m1 x.lp) ([R]++q.T gd gr ⟨KA,C1 x.lp,S1 x.lp,false⟩):=by
   have:=((h9.same (Chg.drew [] w10)).cR kA)
   rw [hR] at this
   exact this.vB List.perm_append_comm
 have k13:=k10d.same kA.chg
 have hall:∀ {w':World} {ps:List Nat} {m:ah} {T:List Res},aj w8 [] w' gd ps m ([R]++T)→Rd w' a (x.pn+x.ln) c 1 (x.vp++x.vl)∧cH w' (x.vp++x.vl) (x.lp++x.ll):=fun hD=>⟨hD.rest.rd (i:=0) (by rw [←hR];rfl),(h8.rp2.app h8.rl2).au hD.chg⟩
 have hlen:(x.lp++x.ll).length=x.pn+x.ln:=by rw [List.length_append];omega
 obtain ⟨A,hAl⟩:∃A,x.lp++x.ll=A:=⟨_,rfl⟩
 obtain ⟨n,hn⟩:∃n,x.pn+x.ln=n:=⟨_,rfl⟩
 obtain ⟨vs,hvs⟩:∃vs,x.vp++x.vl=vs:=⟨_,rfl⟩
 rw [hAl,hn] at hlen
 rw [hAl] at hch
 rw [hAl,hn,hvs] at hall
 rw [hn] at hle ⊢
 have hn80:n≤80:=by omega
 -- how many unlike ones
 refine ⟨fun y z w'=>∃i:Nat,z=(i:Int)∧i≤n∧y=((fH (A.take i)).length:Int)∧w'=w13,fun _ z _=>n-z.toNat,⟨0,rfl,by omega,rfl,rfl⟩,?_⟩
 rintro y z w14 ⟨i,rfl,hi,rfl,rfl⟩
 refine ⟨fun hlt=>?_,fun hge=>?_⟩
 · have hi':i<n:=by simp at hlt;omega
   obtain ⟨b,o,pa,pn,pc,hab,hv,hpr,hld⟩:=ixS (hall h13).1.cells (hall h13).2 (i:=i) (by omega)
   obtain ⟨p,hp⟩:∃p,A.getD i []=p:=⟨_,rfl⟩
   have hpm:A[i]?=some p:=by rw [←hp,List.getD,List.getElem?_eq_getElem (by omega)];simp
   rw [hp] at hpr
   have hpn:p.length=pn:=hpr.bB
   refine ⟨b,o,hab,by omega,by omega,pa,pn,pc,hld w14 (hall h13).1.cells,by omega,by omega,fun f z w'=>∃j:Nat,z=(j:Int)∧j≤i∧f= !(A.take j).contains p∧w'=w14,fun _ z _=>i-z.toNat,⟨0,rfl,by omega,by simp,rfl⟩,?_⟩
   rintro f z w15 ⟨j,rfl,hj,rfl,rfl⟩
   refine ⟨fun hlt=>?_,fun hge=>?_⟩
   · have hj':j<i:=by simp at hlt;omega
     obtain ⟨b2,o2,qa,qn,qc,hab2,hv2,hqr,hld2⟩:=ixS (hall h13).1.cells (hall h13).2 (i:=j) (by omega)
     obtain ⟨p2,hp2⟩:∃p2,A.getD j []=p2:=⟨_,rfl⟩
     have hpm2:A[j]?=some p2:=by rw [←hp2,List.getD,List.getElem?_eq_getElem (by omega)];simp
     rw [hp2] at hqr
     have e1:(A.take (j+1)).contains p=((A.take j).contains p||p==p2):=by
       rw [List.take_add_one,hpm2,Bool.eq_iff_iff]
       simp
     refine ⟨b2,o2,hab2,by omega,by omega,qa,qn,qc,hld2 w15 (hall h13).1.cells,fun f w'=>f= !(A.take (j+1)).contains p∧w'=w15,⟨fun hf=>⟨_,toStr bS bE sS hpr.cells hpn,_,toStr bS bE sS hqr.cells hqr.bB,?_,rfl⟩,fun hf=>⟨?_,rfl⟩⟩,?_⟩
     · rw [ByteArray.toList_eq,ByteArray.toList_eq,e1]
       have hf:(A.take j).contains p=false:=by simpa using hf
       rw [hf];rfl
     · have hf:(A.take j).contains p=true:=by simpa using hf
       rw [e1,hf];rfl
     · rintro f w16 ⟨rfl,rfl⟩
       exact ⟨⟨j+1,ay hj' (by omega),by omega,rfl,rfl⟩,aB hj' (by omega)⟩
   · have hj':j=i:=by simp at hge;omega
     subst hj'
     have hstep:(fH (A.take (j+1))).length=(fH (A.take j)).length+if (A.take j).contains p then 0 else 1:=by
       rw [List.take_add_one,hpm];exact Iu _ p
     have hul:(fH (A.take j)).length≤80:=by
       have:=mo (qK (A.take j)) (m:=A.take j) fun y hy=>(kg _ _).1 hy
       have h2:(A.take j).length≤j:=by simp;omega
       omega
     refine ⟨fun y w'=>y=((fH (A.take (j+1))).length:Int)∧w'=w15,⟨fun hf=>⟨?_,rfl⟩,fun hf=>⟨?_,rfl⟩⟩,?_⟩
     · have hf:(A.take j).contains p=false:=by simpa using hf
       rw [hstep,hf,wrap_i64 (by omega) (by omega)]
       simp
     · have hf:(A.take j).contains p=true:=by simpa using hf
       rw [hstep,hf];simp
     · rintro y w16 ⟨rfl,rfl⟩
       exact ⟨⟨j+1,ay hi' (by omega),by omega,rfl,rfl⟩,aB hi' (by omega)⟩
 have hi':i=n:=by simp at hge;omega
 have eU:fH (A.take i)=fH A:=by rw [hi',←hlen,List.take_length]
 rw [eU]
 obtain ⟨u,hu⟩:∃u,(fH A).length=u:=⟨_,rfl⟩
 have hu80:u≤80:=by
   have:=mo (qK A) (m:=A) fun y hy=>(kg _ _).1 hy
   omega
 have hr2:=P.NQ
 have hr3:=P.NJ
 have hused:=P.used
 have hget:=P.get
 rw [hAl] at hr2 hr3 hused hget
 rw [hu] at hr2 hr3 hused ⊢
 have h14d:yN w14 x:=h8.au h13.chg
 have hap:=mD x.la x.ln x.lc x.vl x.ll none 0 0 [] none 0 0 [] ⟨q,ok,h13⟩ hK8 hT8 h14d.rl h14d.rl2 (fun p hp=>hch p (by rw [←hAl];exact List.mem_append_right _ hp)) (by omega) (RdE.nil _) (by simp) (by simp) (by decide) (fun _ _=>⟨Cells.nil _ _,rfl,Nat.le_refl _,fun _=>rfl⟩) (by decide) P.M6 (by omega) (by omega)
 rw [P.eq2] at hap
 refine ⟨fun y w'=>y=false∧yJ w8 w' gd gr m2 ⟨KA,C2,S2,false⟩ [R],⟨_,_,_,k13.ldL (i:=0) (o:=1) rfl (zn _) rfl rfl,hap.mono ?_⟩,?_⟩
 · rintro e w18 ⟨rfl,q2,ok2,h18⟩
   have ok2:ROk ⟨KA,C2,S2,false⟩ q2:=ok2
   have h18:aj w8 [] w18 gd q2.ps m2 ([R]++q2.T gd gr ⟨KA,C2,S2,false⟩):=h18
   refine ⟨_,rfl,_,az hI none _ _,fun h=>(by cases h),fun _=>(tU ok2 h18 (by show S2.length≤_;omega)).mono ?_⟩
   rintro e w19 ⟨ra,rn,rc,q3,rfl,hq3,ok3,h19⟩
   have hrn:rn=u:=by
     have hr:RdR w19 ra rn rc S2:=⟨h19.rest.rd (i:=0) rfl,fun x _=>aJ x⟩
     have:=hr.num (by decide)
     omega
   subst hrn
   rw [←hq3] at h19
   have h19:aj w8 [] w19 gd q3.ps m2 ([R]++q3.T gd gr ⟨KA,C2,S2,false⟩):=h19.tQ (List.sublist_cons_self _ _)
   obtain ⟨ra1,ra2⟩:=hall h19
   refine ⟨_,_,_,rfl,fun h=>by simp at h,fun _=>(Bo a n c vs A ok3 h19 hK8 hT8 ra1 ra2 (by omega) hch hget).mono ?_⟩
   rintro e w20 ⟨rfl,c20⟩
   exact ⟨_,rfl,rfl,q3,ok3,h19.same c20⟩
 rintro y w21 ⟨rfl,q4,ok4,h21⟩
 refine ⟨fun h=>(by cases h),fun _=>(iy ok4 h21).mono ?_⟩
 rintro e w22 ⟨sa,sc,pa,pc,rfl,k22⟩
 have h22:=h21.same k22.chg
 have hpk:RdE pkC 3 w22 pa C2.aq.length pc C2.aq:=⟨k22.rd (i:=1) rfl,fun _ _=>rfl⟩
 have hpl:C2.aq.length≤1024:=(bh ok4.chk).2.2.2
 have hsum:∀i,i≤C2.aq.length→0≤((C2.aq.take i).map (·.count)).sum∧((C2.aq.take i).map (·.count)).sum≤80:=fun i _=>by
   have pos:∀l:List PkD,(∀p∈l,0≤p.count)→0≤(l.map (·.count)).sum:=fun l=>by
     induction l with
     | nil=>simp
     | cons p l ih=>
       intro hl
       have h1:=hl p (by simp)
       have h2:=ih fun q hq=>hl q (by simp [hq])
       simp only [List.map_cons,List.sum_cons]
       omega
   have h1:=pos (C2.aq.take i) fun p hp=>P.pos p (List.mem_of_mem_take hp)
   have h2:=pos (C2.aq.drop i) fun p hp=>P.pos p (List.mem_of_mem_drop hp)
   have h3:(C2.aq.map (·.count)).sum=((C2.aq.take i).map (·.count)).sum+((C2.aq.drop i).map (·.count)).sum:=by
     rw [←List.sum_append,←List.map_append,List.take_append_drop]
   omega
 refine ⟨_,rfl,_,_,_,uW _ _ _ _ _ _ _ _,fun y z w'=>∃i:Nat,z=(i:Int)∧i≤C2.aq.length∧y=((C2.aq.take i).map (·.count)).sum∧Chg [] w22 w',fun _ z _=>C2.aq.length-z.toNat,⟨0,rfl,by omega,rfl,Chg.refl _ _⟩,?_⟩
 rintro y z w23 ⟨j,rfl,hj,rfl,c23⟩
 refine ⟨fun hlt=>?_,fun hge=>?_⟩
 · have hj':j<C2.aq.length:=by simp at hlt;omega
   obtain ⟨p,hp⟩:∃p,C2.aq[j]?=some p:=⟨_,List.getElem?_eq_getElem hj'⟩
   obtain ⟨b,o,hab,hld⟩:=(hpk.au c23).ld (P:=Tryz.prog) (by decide) pqA pqS hp
   obtain ⟨g14,w24,r24,k24⟩:=(St.start w23).aD Mg
   obtain ⟨w25,r25,k25⟩:=k24.stA (i:=0) (v:=pkC p) rfl (pqS _) rfl rfl (pL p)
   have e1:((C2.aq.take (j+1)).map (·.count)).sum=((C2.aq.take j).map (·.count)).sum+p.count:=by
     rw [List.take_add_one,hp];simp
   have h1:=hsum j (by omega)
   have h2:=hsum (j+1) (by omega)
   rw [e1] at h2
   refine ⟨b,o,hab,by omega,by simpa using hj',_,hld w23 (hpk.au c23),g14,w24,r24,w25,r25,_,k25.ldL (i:=0) (o:=2) rfl (jv _) rfl rfl,⟨j+1,ay hj' (by omega),by omega,?_,c23.trans k25.chg⟩,aB hj' (by omega)⟩
   rw [e1,wrap_i64 (by omega) (by omega)]
 have hj':j=C2.aq.length:=by simp at hge;omega
 subst hj'
 rw [List.take_length,hused]
 have h23:=h22.same c23
 refine (iy ok4 h23).mono ?_
 rintro e w26 ⟨sa2,sc2,pa2,pc2,rfl,k26⟩
 have h26:=h23.same k26.chg
 obtain ⟨rb1,rb2⟩:=hall h26
 have hap3:=mD a n c vs A none 0 0 [] none 0 0 [] ⟨q4,ok4,h26⟩ hK8 hT8 rb1 rb2 hch (by omega) (RdE.nil _) (by simp) (by simp) (by decide) (fun _ _=>⟨Cells.nil _ _,rfl,Nat.le_refl _,fun _=>rfl⟩) (by decide) (by rw [←hAl];exact P.Mz) (by have:=P.cnt;omega) (by have:=P.cnt;omega)
 have eq3:=P.eq3
 rw [hAl] at eq3
 rw [eq3] at hap3
 refine ⟨_,rfl,_,_,_,uW _ _ _ _ _ _ _ _,hap3.mono ?_⟩
 rintro e w27 ⟨rfl,q5,ok5,h27⟩
 have ok5:ROk ⟨KA,C3,S3,false⟩ q5:=ok5
 have h27:aj w8 [] w27 gd q5.ps m3 ([R]++q5.T gd gr ⟨KA,C3,S3,false⟩):=h27
 refine ⟨_,rfl,_,sG hI none _ _,fun _=>(iy ok5 h27).mono ?_,fun h=>by simp at h⟩
 rintro e w28 ⟨sa3,sc3,pa3,pc3,rfl,k28⟩
 have h28:=h27.same k28.chg
 refine ⟨_,rfl,_,_,_,uW _ _ _ _ _ _ _ _,fun _=>(tU ok5 h28 (by show S3.length≤_;omega)).mono ?_,fun h=>by have:=P.aq;simp [this] at h⟩
 rintro e w29 ⟨ra,rn,rc,q6,rfl,hq6,ok6,h29⟩
 have hrn:rn=u:=by
   have hr:RdR w29 ra rn rc S3:=⟨h29.rest.rd (i:=0) rfl,fun x _=>aJ x⟩
   have:=hr.num (by decide)
   omega
 subst hrn
 rw [←hq6] at h29
 refine ⟨_,_,_,rfl,fun _=>(iy ok6 h29).mono ?_,fun h=>by simp at h⟩
 rintro e w30 ⟨sa4,sc4,pa4,pc4,rfl,k30⟩
 exact ⟨_,rfl,_,GA _ _ _ _ _ _ _ _,by rw [P.gen];rfl,k8.chg.trans ((h29.same k30.chg).chg)⟩

end Go.Proofs.YtpmhjnhgpplmnaaGreatDoor
end
