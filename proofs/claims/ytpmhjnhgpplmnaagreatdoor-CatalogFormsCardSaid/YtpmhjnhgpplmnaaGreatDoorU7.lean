/- The proof of CatalogFormsCardSaid, part 7: what it rests on (conditions: those that each theorem names). -/
import Derived.Test.YtpmhjnhgpplmnaaGreatDoorU6
import Derived.Test.YtpmhjnhgpplmnaaGreatDoorRows
import Derived.WalkKit
import Derived.LaidEql
import Derived.Stop.Asserts
import Derived.RowKitTokens
import Derived.Stop.LaidErr
section
namespace Go.Proofs.YtpmhjnhgpplmnaaGreatDoor
open Go Sx
set_option maxRecDepth 8000

section
variable {w w1 w':World} {g:Nat} {a0:Option Addr} {n0 c0:Nat} {l:List UInt8} {st:Option (List UInt8)} {N N':List Res}
theorem HoldsR.on (h:HoldsR w w1 g a0 n0 c0 l st N):∃M:List Res,M.length=2∧St w [] w1 (M++N)∧∀ {w2 N'},St w [] w2 (M++N')→HoldsR w w2 g a0 n0 c0 l st N':=by
 obtain ⟨a,n,c,hs,hlen,hS⟩:=h
 exact ⟨[_,_],rfl,hS,fun h=>⟨a,n,c,hs,hlen,h⟩⟩
theorem HoldsR.same (h:HoldsR w w1 g a0 n0 c0 l st N) (hc:Chg [] w1 w'):HoldsR w w' g a0 n0 c0 l st N:=by obtain ⟨M,_,hS,b⟩:=h.on;exact b (hS.same hc)
theorem HoldsR.perm (h:HoldsR w w1 g a0 n0 c0 l st N) (hp:N.Perm N'):HoldsR w w1 g a0 n0 c0 l st N':=by obtain ⟨M,_,hS,b⟩:=h.on;exact b (hS.perm (hp.append_left _))
theorem HoldsR.sub (h:HoldsR w w1 g a0 n0 c0 l st N) (hs:N'.Sublist N):HoldsR w w1 g a0 n0 c0 l st N':=by obtain ⟨M,_,hS,b⟩:=h.on;exact b (Sx.St.sub hS (hs.append_left _))
theorem HoldsR.rest (h:HoldsR w w1 g a0 n0 c0 l st N):St w [] w1 N:=by obtain ⟨M,_,hS,b⟩:=h.on;exact Sx.St.sub hS (List.sublist_append_right _ _)
theorem HoldsR.zeroA (h:HoldsR w w1 g a0 n0 c0 l st N) {T:TypeId} {z:List Value} (hz:∀w,(zeroValue T).run Tryz.prog w=.ok (.agg z.toArray) w):∃g' w2,(Instr.alloc T true (.tuple #[])).run Tryz.prog w1=.ok (.pointer (some ⟨g',0,none⟩)) w2∧HoldsR w w2 g a0 n0 c0 l st (N++ [.arr g' T z]):=by
 obtain ⟨M,_,hS,b⟩:=h.on
 obtain ⟨g',w2,r,h2⟩:=hS.zeroA hz
 exact ⟨g',w2,r,b (by rw [←List.append_assoc];exact h2)⟩
theorem HoldsR.stA (h:HoldsR w w1 g a0 n0 c0 l st N) {i g' n:Nat} {l' v:List Value} {T' T:TypeId} (hi:N[i]?=some (.arr g' T' l')) (hS:(sizeOf T).run Tryz.prog w1=.ok n w1) (hl:l'.length=n) (hv:v.length=n) (h1:∀u∈v,u.oneCell'=true):
   ∃w2,(Instr.storeAt T (.pointer (some ⟨g',0,none⟩)) (.agg v.toArray)).run Tryz.prog w1=.ok () w2∧HoldsR w w2 g a0 n0 c0 l st (N.set i (.arr g' T' v)):=by
 obtain ⟨M,hM,hS',b⟩:=h.on
 obtain ⟨w2,r,h2⟩:=hS'.stA (i:=2+i) (v:=v) (by rw [List.getElem?_append_right (by omega),hM,Nat.add_sub_cancel_left];exact hi) hS hl hv h1
 rw [List.set_append_right _ _ (by omega),hM,Nat.add_sub_cancel_left] at h2
 exact ⟨w2,r,b h2⟩
theorem HoldsR.num (h:HoldsR w w1 g a0 n0 c0 l st N):
   Calls Tryz.prog 113 #[.pointer (some ⟨g,0,none⟩)] w1 fun e w2=>e=.returned (.int .i64 (numF st))∧HoldsR w w2 g a0 n0 c0 l (numT st) N:=by
 obtain ⟨a,n,c,hs,hlen,hS⟩:=h
 have h0:RdB w1 a0 n0 c0 l:=hS.rd (i:=0) rfl
 refine (rNum_spec g _ st a n c w1 (hS.holds 1 _ rfl) (hs w1 h0)).mono ?_
 rintro e w2 ⟨rfl,hc,a2,n2,c2,hg2,hs2⟩
 refine ⟨rfl,a2,n2,c2,fun v hv=>hs2 v (hs v hv),?_,hS.upd (i:=1) (r':=.blk g (.cells #[.slice a2 n2 c2,.bool (numT st).isNone] 292)) rfl hc hg2 (by simp [Res.fp])⟩
 cases st with
 | none=>simp [numT,rawF]
 | some q=>
   simp only [Option.getD_some] at hlen
   simp only [numT,rawF,Option.bind_some]
   split
   · simp;omega
   · simp
theorem HoldsR.varT (h:HoldsR w w1 g a0 n0 c0 l st N):
   Calls Tryz.prog 114 #[.pointer (some ⟨g,0,none⟩)] w1 fun e w2=>e=.returned (.int .i64 (varI st))∧HoldsR w w2 g a0 n0 c0 l (varT st) N:=h.var
theorem HoldsR.field (h:HoldsR w w1 g a0 n0 c0 l st N) (hb:l.length≤140737488355000):
   Calls Tryz.prog 212 #[.pointer (some ⟨g,0,none⟩)] w1 fun e w2=>∃a' n' c',e=.returned (.slice a' n' c')∧HoldsR w w2 g a0 n0 c0 l ((st.bind fieldF).map (·.2)) (N++ [.row 5 1 (.slice a' n' c') n' (bv (((st.bind fieldF).map (·.1)).getD []))]):=by
 obtain ⟨a,n,c,hs,hlen,hS⟩:=h
 have h0:RdB w1 a0 n0 c0 l:=hS.rd (i:=0) rfl
 refine (rField_spec g _ st a n c w1 (hS.holds 1 _ rfl) (hs w1 h0) (by omega)).mono ?_
 rintro e w2 ⟨a',n',c',rfl,hf,a2,n2,c2,hg2,hs2⟩
 refine ⟨a',n',c',rfl,a2,n2,c2,fun v hv=>hs2 v (hs v hv),?_,hf.addBlk hS (i:=1) rfl hg2⟩
 cases st with
 | none=>simp
 | some q=>
   simp only [Option.getD_some] at hlen
   simp only [Option.bind_some]
   cases hq:fieldF q with
   | none=>simp
   | some p=>have:=fieldF_some (f:=p.1) (r:=p.2) hq;obtain ⟨s,_,_,_,_,h6,_⟩:=this;simp;omega
end

def snZL (x:List UInt8) (t s c:Int):List Value:=[strV x,.int .i64 t,.int .i64 s,.int .i64 c]++bv (List.replicate 32 0)
theorem snZ' (w:World):(zeroValue 89).run Tryz.prog w=.ok (.agg (snZL [] 0 0 0).toArray) w:=snZ w
theorem built_sn:Tryz.prog.built 89=fun parts=>Instr.fill (fun i=>(#[(0,1),(1,1),(2,1),(3,1),(4,32)]:Array (Nat×Nat))[i]?) (snZL [] 0 0 0).toArray parts:=by kernel_rfl
theorem sn_build (x:List UInt8) (t s c:Int) (w:World):(Instr.build 89 #[(0,.string ⟨x.toArray⟩),(1,.int .i64 t),(2,.int .i64 s),(3,.int .i64 c)]).run Tryz.prog w=.ok (.agg (snZL x t s c).toArray) w:=by
 apply run_build
 rw [built_sn]
 show Instr.fill _ _ [(0,_),(1,_),(2,_),(3,_)]=_
 rw [fill_step (off:=0) (sz:=1) rfl rfl (by simp [Value.cells,snZL]),fill_step (off:=1) (sz:=1) rfl rfl (by simp [Value.cells,snZL]),fill_step (off:=2) (sz:=1) rfl rfl (by simp [Value.cells,snZL]),fill_step (off:=3) (sz:=1) rfl rfl (by simp [Value.cells,snZL])]
 rfl
theorem snZL_one (x:List UInt8) (t s c:Int):∀v∈snZL x t s c,v.oneCell'=true:=fun v hv=>by
 simp only [snZL,List.mem_append,List.mem_cons,List.not_mem_nil,or_false] at hv
 rcases hv with (rfl | rfl | rfl | rfl) | h
 · rfl
 · rfl
 · rfl
 · rfl
 · exact bv_one _ v h

theorem Sx.St.copyAt {w0 w:World} {X:List Nat} {M:List Res} (h:St w0 X w M) {i g T n c o d:Nat} {a:Option Addr} {l:List Value} {src:List UInt8} (hi:M[i]?=some (.arr g T l)) (hd:o+d≤l.length) (hr:RdB w a n c src) (hn:n≤d) (hpos:0<n):
   ∃w',(Builtin.copy_ #[26,26] 3 #[.slice (some ⟨g,o,none⟩) d d,.slice a n c]).run Tryz.prog w=.ok (.int .i64 (n:Int)) w'∧St w0 X w' (M.set i (.arr g T (l.take o++bv src++l.drop (o+n)))):=by
 have hl:=hr.lenB
 have hinf:(Tryz.prog.info? 5).map (·.size)=some 1:=by kernel_rfl
 have hg:=h.holds i _ hi
 rcases hr.cells with h0 | ⟨b,f,rfl,hrg⟩
 · have h0':n=0:=by rw [←hl];simpa [bv] using congrArg List.length h0
   omega
 · have hr':=run_copy_row (P:=Tryz.prog) w 26 26 3 5 g o d d ⟨b,f,none⟩ n c l.toArray T (bv src) bS hinf hg (by rw [bv_length,hl];exact (Nat.min_eq_left hn).symm) (fun j v hj=>by rw [Addr.add_mid];exact hrg j v hj) (by simp;omega) (bv_one _)
   have e:(l.toArray.toList.take o++bv src++l.toArray.toList.drop (o+(bv src).length)).toArray=(l.take o++bv src++l.drop (o+n)).toArray:=by
     simp [hl]
   rw [e] at hr'
   refine ⟨_,by rw [hr',bv_length,hl];rfl,h.upd hi (w':=w.setRow g _) ⟨rfl,rfl,rfl,by simp,fun k _ hk=>setRow_other w g k _ (fun e=>hk (by simp [Res.fp,e]))⟩ (setRow_heap w g _ _ T _ hg) (by simp [Res.fp])⟩

set_option maxHeartbeats 4000000 in
theorem catSnap_spec {w w1:World} {g:Nat} {a0:Option Addr} {n0 c0:Nat} {l r:List UInt8} {N:List Res} (s:SnapD) (hs:(1≤s.name.length∧s.name.length≤32)∧I63 s.time∧N63 s.size∧N63 s.chunks) (hb:l.length≤140737488355000) (h:HoldsR w w1 g a0 n0 c0 l (some (snapB s++r)) N):
   Calls Tryz.prog 116 #[.agg #[.pointer (some ⟨g,0,none⟩)]] w1 fun e w2=>e=.returned (.agg (snapC s).toArray)∧HoldsR w w2 g a0 n0 c0 l (some r) N:=by
 have e0:snapB s++r=varL s.name.length++s.name++(numZ s.time++(varZ s.size++(varZ s.chunks++(s.root++r)))):=by simp [snapB,varsZ,List.append_assoc]
 have f0:(some (snapB s++r)).bind fieldF=some (s.name,numZ s.time++(varZ s.size++(varZ s.chunks++(s.root++r)))):=by rw [e0,Option.bind_some,fieldF_pack (by omega)]
 obtain ⟨v1,t1⟩:=num_app hs.2.1 (varZ s.size++(varZ s.chunks++(s.root++r)))
 obtain ⟨v2,t2⟩:=var_appZ hs.2.2.1 (varZ s.chunks++(s.root++r))
 obtain ⟨v3,t3⟩:=var_appZ hs.2.2.2 (s.root++r)
 have f4:rawF (some (s.root++r)) 32=some (s.root,r):=by
   have:=raw_nat (l:=s.root++r) (m:=32) (by simp [s.rl])
   rw [show ((32:Nat):Int)=32 from rfl] at this
   rw [this,List.take_left' s.rl,List.drop_left' s.rl]
 obtain ⟨s0,hs0⟩:∃st,some (snapB s++r)=st:=⟨_,rfl⟩
 obtain ⟨s1,hs1⟩:∃st,some (numZ s.time++(varZ s.size++(varZ s.chunks++(s.root++r))))=st:=⟨_,rfl⟩
 obtain ⟨s2,hs2⟩:∃st,some (varZ s.size++(varZ s.chunks++(s.root++r)))=st:=⟨_,rfl⟩
 obtain ⟨s3,hs3⟩:∃st,some (varZ s.chunks++(s.root++r))=st:=⟨_,rfl⟩
 obtain ⟨s4,hs4⟩:∃st,some (s.root++r)=st:=⟨_,rfl⟩
 rw [hs0] at h f0
 rw [hs1,hs2] at t1
 rw [hs1] at v1
 rw [hs2,hs3] at t2
 rw [hs2] at v2
 rw [hs3,hs4] at t3
 rw [hs3] at v3
 apply catalog_reader_snapshot_vc
 obtain ⟨M,hM,hS,back⟩:=h.on
 obtain ⟨g1,w2,r2,h2⟩:=hS.boxA (P:=Tryz.prog) 201 [.pointer (some ⟨g,0,none⟩)]
 obtain ⟨g2,w3,r3,h3⟩:=h2.zeroA snZ'
 obtain ⟨B,hB⟩:∃B:List Res,N++ [.arr g1 201 [.pointer (some ⟨g,0,none⟩)],.arr g2 89 (snZL [] 0 0 0)]=B:=⟨_,rfl⟩
 have H3:HoldsR w w3 g a0 n0 c0 l s0 B:=by rw [←hB];exact back (by rw [List.append_assoc,List.append_assoc] at h3;exact h3)
 have bg1:B[N.length]?=some (.arr g1 201 [.pointer (some ⟨g,0,none⟩)]):=by rw [←hB,List.getElem?_append_right (Nat.le_refl _),Nat.sub_self];rfl
 have bg2:B[N.length+1]?=some (.arr g2 89 (snZL [] 0 0 0)):=by rw [←hB,List.getElem?_append_right (by omega),Nat.add_sub_cancel_left];rfl
 have app:∀ {R:List Res} {i:Nat} {x:Res},B[i]?=some x→(B++R)[i]?=some x:=fun h=>by rw [List.getElem?_append_left (List.getElem?_eq_some_iff.1 h).1];exact h
 have rdA:∀w,(isAgg 198).run Tryz.prog w=.ok false w:=fun w=>Tryz.isAgg198 w
 have ldR:∀ {w' st R},HoldsR w w' g a0 n0 c0 l st (B++R)→(Instr.loadAt 198 (.pointer (some ⟨g1,0,none⟩))).run Tryz.prog w'=.ok (.pointer (some ⟨g,0,none⟩)) w':=fun h=>h.rest.ldL (i:=N.length) (o:=0) (app bg1) (rdA _) rfl rfl
 let S0:World→Prop:=fun w'=>∃st R,HoldsR w w' g a0 n0 c0 l st (B++R)
 have toS0:∀ {w' st},HoldsR w w' g a0 n0 c0 l st B→S0 w':=fun h=>⟨_,[],by rw [List.append_nil];exact h⟩
 let nr (a:Option Addr) (n c:Nat):Res:=.row 5 1 (.slice a n c) n (bv s.name)
 let S1 (a:Option Addr) (n c:Nat):World→Prop:=fun w'=>∃st R,HoldsR w w' g a0 n0 c0 l st (B++(nr a n c::R))
 have incl:∀a n c v,S1 a n c v→S0 v:=fun a n c v ⟨st,R,h⟩=>⟨st,_,h⟩
 let z3 (g3:Nat):Res:=.arr g3 89 (snZL [] 0 0 0)
 let J:Nat→Nat→World→Prop:=fun b o w'=>o=0∧∃a n c,HoldsR w w' g a0 n0 c0 l s4 (B++ [nr a n c,.arr b 89 (snZL s.name s.time s.size s.chunks)])
 have qF:∀ {w' R},HoldsR w w' g a0 n0 c0 l s0 (B++R)→Calls Tryz.prog 212 #[.pointer (some ⟨g,0,none⟩)] w' fun e w2=>∃a n c,e=.returned (.slice a n c)∧HoldsR w w2 g a0 n0 c0 l s1 (B++(nr a n c::R)):=fun {w' R} h=>by
   refine (h.field hb).mono ?_
   rintro e w2 ⟨a,n,c,rfl,h2⟩
   rw [f0] at h2
   have h2:HoldsR w w2 g a0 n0 c0 l s1 ((B++R)++ [nr a n c]):=by rw [←hs1];exact h2
   refine ⟨a,n,c,rfl,h2.perm ?_⟩
   rw [List.append_assoc]
   exact (List.perm_append_comm (l₁:=R) (l₂:=[_])).append_left B
 have qC:∀ {a n c} v,S1 a n c v→(convert 26 9 (.slice a n c)).run Tryz.prog v=.ok (.string ⟨s.name.toArray⟩) v:=fun {a n c} v ⟨st,R,h⟩=>by
   have hr:RdB v a n c s.name:=h.rest.rd (i:=B.length) (by rw [List.getElem?_append_right (Nat.le_refl _),Nat.sub_self];rfl)
   exact toStr Tryz.underlying26 Tryz.underlying5 Tryz.underlying9 hr.cells hr.lenB
 have qA:∀ {w' st R},HoldsR w w' g a0 n0 c0 l st (B++R)→∃g3 w2,(Instr.alloc 89 true (.tuple #[])).run Tryz.prog w'=.ok (.pointer (some ⟨g3,0,none⟩)) w2∧HoldsR w w2 g a0 n0 c0 l st (B++(R++ [z3 g3])):=fun h=>by
   obtain ⟨g3,w2,r,h2⟩:=h.zeroA snZ'
   exact ⟨g3,w2,r,by rw [List.append_assoc] at h2;exact h2⟩
 have qS:∀ {w' a n c g3},HoldsR w w' g a0 n0 c0 l s4 (B++ [nr a n c,z3 g3])→∃w2,(Instr.storeAt 89 (.pointer (some ⟨g3,0,none⟩)) (.agg (snZL s.name s.time s.size s.chunks).toArray)).run Tryz.prog w'=.ok () w2∧J g3 0 w2:=fun {w' a n c g3} h=>by
   obtain ⟨w2,r,h2⟩:=h.stA (i:=B.length+1) (v:=snZL s.name s.time s.size s.chunks) (by rw [List.getElem?_append_right (by omega),Nat.add_sub_cancel_left];rfl) (snS _) (by simp [snZL]) (by simp [snZL]) (snZL_one _ _ _ _)
   rw [List.set_append_right _ _ (by omega),Nat.add_sub_cancel_left] at h2
   exact ⟨w2,r,rfl,a,n,c,h2⟩
 have qN:∀ {w' R},HoldsR w w' g a0 n0 c0 l s1 R→Calls Tryz.prog 113 #[.pointer (some ⟨g,0,none⟩)] w' fun e w2=>e=.returned (.int .i64 s.time)∧HoldsR w w2 g a0 n0 c0 l s2 R:=fun h=>by
   have:=h.num;rw [v1,t1] at this;exact this
 have qV:∀ {w' R},HoldsR w w' g a0 n0 c0 l s2 R→Calls Tryz.prog 114 #[.pointer (some ⟨g,0,none⟩)] w' fun e w2=>e=.returned (.int .i64 s.size)∧HoldsR w w2 g a0 n0 c0 l s3 R:=fun h=>by
   have:=h.varT;rw [v2,t2] at this;exact this
 have qW:∀ {w' R},HoldsR w w' g a0 n0 c0 l s3 R→Calls Tryz.prog 114 #[.pointer (some ⟨g,0,none⟩)] w' fun e w2=>e=.returned (.int .i64 s.chunks)∧HoldsR w w2 g a0 n0 c0 l s4 R:=fun h=>by
   have:=h.varT;rw [v3,t3] at this;exact this
 have p2:∀ {w' a n c g3},HoldsR w w' g a0 n0 c0 l s3 (B++ [nr a n c,z3 g3])→Calls Tryz.prog 114 #[.pointer (some ⟨g,0,none⟩)] w' fun e w2=>∃t:Int,e=.returned (.int .i64 t)∧∃S':World→Prop,(∀v,S' v→S1 a n c v)∧S' w2∧∃u:Array Value,(∀v,S' v→(Instr.build 89 #[(0,.string ⟨s.name.toArray⟩),(1,.int .i64 s.time),(2,.int .i64 s.size),(3,.int .i64 t)]).run Tryz.prog v=.ok (.agg u) v)∧∃w3,(Instr.storeAt 89 (.pointer (some ⟨g3,0,none⟩)) (.agg u)).run Tryz.prog w2=.ok () w3∧J g3 0 w3:=fun {w' a n c g3} h=>by
   refine (qW h).mono ?_
   rintro e w2 ⟨rfl,h2⟩
   obtain ⟨w4,r4,j4⟩:=qS h2
   exact ⟨_,rfl,S1 a n c,fun _ h=>h,⟨_,_,h2⟩,_,fun v _=>sn_build _ _ _ _ v,w4,r4,j4⟩
 have p1:∀ {w' a n c g3},HoldsR w w' g a0 n0 c0 l s2 (B++ [nr a n c,z3 g3])→Calls Tryz.prog 114 #[.pointer (some ⟨g,0,none⟩)] w' fun e w2=>∃t:Int,e=.returned (.int .i64 t)∧t=s.size∧S1 a n c w2∧HoldsR w w2 g a0 n0 c0 l s3 (B++ [nr a n c,z3 g3]):=fun {w' a n c g3} h=>by
   refine (qV h).mono ?_
   rintro e w2 ⟨rfl,h2⟩
   exact ⟨_,rfl,rfl,⟨_,_,h2⟩,h2⟩
 have H3:=H3.same (Chg.drew [] w3)
 have H3':HoldsR w w3.drew g a0 n0 c0 l s0 (B++ []):=by rw [List.append_nil];exact H3
 refine ⟨g1,w2,r2,g2,w3,r3,J,⟨S0,toS0 H3,_,_,fun v ⟨_,_,h⟩=>ldR h,_,_,fun v ⟨_,_,h⟩=>ldR h,_,_,fun v ⟨_,_,h⟩=>ldR h,_,_,fun v ⟨_,_,h⟩=>ldR h,(qF H3').mono ?_,?_⟩,?_⟩
 · rintro e w4 ⟨a,n,c,rfl,H4⟩
   refine ⟨_,_,_,rfl,S1 a n c,incl a n c,⟨_,_,H4⟩,_,qC,(qN H4).mono ?_,?_⟩
   · rintro e w5 ⟨rfl,H5⟩
     refine ⟨_,rfl,S1 a n c,fun _ h=>h,⟨_,_,H5⟩,(qV H5).mono ?_,?_⟩
     · rintro e w6 ⟨rfl,H6⟩
       refine ⟨_,rfl,S1 a n c,fun _ h=>h,⟨_,_,H6⟩,(qW H6).mono ?_,?_⟩
       · rintro e w7 ⟨rfl,H7⟩
         obtain ⟨g3,w8,r8,H8⟩:=qA H7
         obtain ⟨w9,r9,j9⟩:=qS H8
         exact ⟨_,rfl,S1 a n c,fun _ h=>h,⟨_,_,H7⟩,_,fun v _=>sn_build _ _ _ _ v,g3,w8,r8,S1 a n c,fun _ h=>h,⟨_,_,H8⟩,w9,r9,j9⟩
       · obtain ⟨g3,w8,r8,H8⟩:=qA H6
         exact ⟨g3,w8,r8,S1 a n c,fun _ h=>h,⟨_,_,H8⟩,p2 H8⟩
     · obtain ⟨g3,w8,r8,H8⟩:=qA H5
       refine ⟨g3,w8,r8,S1 a n c,fun _ h=>h,⟨_,_,H8⟩,(qV H8).mono ?_⟩
       rintro e w9 ⟨rfl,H9⟩
       exact ⟨_,rfl,S1 a n c,fun _ h=>h,⟨_,_,H9⟩,p2 H9⟩
   · obtain ⟨g3,w8,r8,H8⟩:=qA H4
     refine ⟨g3,w8,r8,S1 a n c,fun _ h=>h,⟨_,_,H8⟩,(qN H8).mono ?_⟩
     rintro e w9 ⟨rfl,H9⟩
     refine ⟨_,rfl,S1 a n c,fun _ h=>h,⟨_,_,H9⟩,(qV H9).mono ?_⟩
     rintro e w10 ⟨rfl,H10⟩
     exact ⟨_,rfl,S1 a n c,fun _ h=>h,⟨_,_,H10⟩,p2 H10⟩
 · obtain ⟨g3,w8,r8,H8⟩:=qA H3'
   refine ⟨g3,w8,r8,S0,fun _ h=>h,⟨_,_,H8⟩,(qF H8).mono ?_⟩
   rintro e w4 ⟨a,n,c,rfl,H4⟩
   refine ⟨_,_,_,rfl,S1 a n c,incl a n c,⟨_,_,H4⟩,_,qC,(qN H4).mono ?_⟩
   rintro e w9 ⟨rfl,H9⟩
   refine ⟨_,rfl,S1 a n c,fun _ h=>h,⟨_,_,H9⟩,(qV H9).mono ?_⟩
   rintro e w10 ⟨rfl,H10⟩
   exact ⟨_,rfl,S1 a n c,fun _ h=>h,⟨_,_,H10⟩,p2 H10⟩
 · rintro g3 o w11 ⟨rfl,a,n,c,H11⟩
   have H12:=H11.same (Chg.drew [] w11)
   refine ⟨S0,⟨_,_,H12⟩,by omega,by omega,_,_,fun v ⟨_,_,h⟩=>ldR h,(H12.raw 32 hb).mono ?_⟩
   rintro e w13 ⟨ra,rn,rc,rfl,H13⟩
   rw [←hs4,f4] at H13
   have H13:HoldsR w w13 g a0 n0 c0 l (some r) ((B++ [nr a n c,.arr g3 89 (snZL s.name s.time s.size s.chunks)])++ [.row 5 1 (.slice ra rn rc) rn (bv s.root)]):=H13
   obtain ⟨M2,hM2,hS2,back2⟩:=H13.on
   have S13:S0 w13:=⟨_,_,by have h:=H13;rw [List.append_assoc] at h;exact h⟩
   have hrd:RdB w13 ra rn rc s.root:=H13.rest.rd (i:=B.length+2) two_get
   have hrn:=hrd.lenB
   rw [s.rl] at hrn
   have e3:(M2++((B++ [nr a n c,.arr g3 89 (snZL s.name s.time s.size s.chunks)])++ [.row 5 1 (.slice ra rn rc) rn (bv s.root)]))[M2.length+(B.length+1)]?=some (.arr g3 89 (snZL s.name s.time s.size s.chunks)):=by
     rw [List.getElem?_append_right (by omega),Nat.add_sub_cancel_left,List.getElem?_append_left (by simp),List.getElem?_append_right (by omega),Nat.add_sub_cancel_left];rfl
   obtain ⟨w14,r14,h14⟩:=hS2.copyAt (o:=4) (d:=32) e3 (by simp [snZL]) hrd (by omega) (by omega)
   rw [List.set_append_right _ _ (by omega),Nat.add_sub_cancel_left,List.set_append_left _ _ (by simp),List.set_append_right _ _ (by omega),Nat.add_sub_cancel_left] at h14
   have e4:(snZL s.name s.time s.size s.chunks).take 4++bv s.root++(snZL s.name s.time s.size s.chunks).drop (4+rn)=snapC s:=by
     rw [←hrn];simp [snZL,snapC]
   rw [e4] at h14
   have H14:=back2 h14
   have H14:HoldsR w w14 g a0 n0 c0 l (some r) (B++ [nr a n c,.arr g3 89 (snapC s),.row 5 1 (.slice ra rn rc) rn (bv s.root)]):=by rw [List.append_assoc] at H14;exact H14
   obtain ⟨w15,r15,H15⟩:=H14.stA (i:=N.length+1) (v:=snapC s) (app bg2) (snS _) (by simp [snZL]) (snapC_len s) (snapC_one s)
   have hlt:=(List.getElem?_eq_some_iff.1 bg2).1
   rw [List.set_append_left _ _ hlt] at H15
   refine ⟨_,_,_,rfl,S0,fun _ h=>h,S13,(rn:Int),w14,?_,S0,fun _ h=>h,⟨_,_,H14⟩,_,H14.rest.ldA (i:=B.length+1) (l:=snapC s) (by rw [List.getElem?_append_right (by omega),Nat.add_sub_cancel_left];rfl) (snA _) (snS _) (snapC_len s),w15,r15,_,H15.rest.ldVarA (i:=N.length+1) (l:=snapC s) (by rw [List.getElem?_append_left (by rw [List.length_set];exact hlt),List.getElem?_set_self hlt]) (snA _) (snS _) (snapC_len s),rfl,?_⟩
   · exact r14
   · refine H15.sub ?_
     rw [←hB,List.set_append_right _ _ (by omega),Nat.add_sub_cancel_left,List.append_assoc]
     exact List.sublist_append_left _ _

end Go.Proofs.YtpmhjnhgpplmnaaGreatDoor
end

section
namespace Go.Proofs.YtpmhjnhgpplmnaaGreatDoor
open Go Sx
set_option maxRecDepth 8000

theorem Sx.St.stAt {P:Program} {w0 w:World} {X:List Nat} {M:List Res} (h:St w0 X w M) {i g n o:Nat} {l v:List Value} {T' T:TypeId} (hi:M[i]?=some (.arr g T' l)) (hS:(sizeOf T).run P w=.ok n w) (hv:v.length=n) (hle:o+n≤l.length) (h1:∀u∈v,u.oneCell'=true):
   ∃w',(Instr.storeAt T (.pointer (some ⟨g,o,none⟩)) (.agg v.toArray)).run P w=.ok () w'∧St w0 X w' (M.set i (.arr g T' (l.take o++v++l.drop (o+n)))):=by
 have hg:=h.holds i _ hi
 have hst:=run_storeCells_at P g o T' v 0 l.toArray w hg (by simp;omega) h1
 have hset:(l.toArray.toList.take (o+0)++v++l.toArray.toList.drop (o+0+v.length)).toArray=(l.take o++v++l.drop (o+n)).toArray:=by simp [hv]
 rw [hset] at hst
 refine ⟨_,?_,h.upd hi (w':=w.setRow g _) ⟨rfl,rfl,rfl,by simp,fun k _ hk=>setRow_other w g k _ (fun e=>hk (by simp [Res.fp,e]))⟩ (setRow_heap w g _ _ T' _ hg) (by simp [Res.fp])⟩
 simp [Instr.storeAt,Instr.sureAddr,storeVar,hS,Value.cells,hv,hst]

section
variable {w w1 w':World} {g:Nat} {a0:Option Addr} {n0 c0:Nat} {l:List UInt8} {st:Option (List UInt8)} {N N':List Res}
theorem HoldsR.stAt (h:HoldsR w w1 g a0 n0 c0 l st N) {i g' n o:Nat} {l' v:List Value} {T' T:TypeId} (hi:N[i]?=some (.arr g' T' l')) (hS:(sizeOf T).run Tryz.prog w1=.ok n w1) (hv:v.length=n) (hle:o+n≤l'.length) (h1:∀u∈v,u.oneCell'=true):
   ∃w2,(Instr.storeAt T (.pointer (some ⟨g',o,none⟩)) (.agg v.toArray)).run Tryz.prog w1=.ok () w2∧HoldsR w w2 g a0 n0 c0 l st (N.set i (.arr g' T' (l'.take o++v++l'.drop (o+n)))):=by
 obtain ⟨M,hM,hS',b⟩:=h.on
 obtain ⟨w2,r,h2⟩:=Sx.St.stAt hS' (i:=2+i) (v:=v) (by rw [List.getElem?_append_right (by omega),hM,Nat.add_sub_cancel_left];exact hi) hS hv hle h1
 rw [List.set_append_right _ _ (by omega),hM,Nat.add_sub_cancel_left] at h2
 exact ⟨w2,r,b h2⟩
theorem HoldsR.stL (h:HoldsR w w1 g a0 n0 c0 l st N) {i g' o:Nat} {l':List Value} {v:Value} {T' T:TypeId} (hi:N[i]?=some (.arr g' T' l')) (hT:(sizeOf T).run Tryz.prog w1=.ok 1 w1) (ho:o<l'.length) (hv:v.oneCell'=true):
   ∃w2,(Instr.storeAt T (.pointer (some ⟨g',o,none⟩)) v).run Tryz.prog w1=.ok () w2∧HoldsR w w2 g a0 n0 c0 l st (N.set i (.arr g' T' (l'.set o v))):=by
 obtain ⟨M,hM,hS',b⟩:=h.on
 obtain ⟨w2,r,h2⟩:=hS'.stL (i:=2+i) (o:=o) (off:=o) (v:=v) (by rw [List.getElem?_append_right (by omega),hM,Nat.add_sub_cancel_left];exact hi) hT rfl ho hv
 rw [List.set_append_right _ _ (by omega),hM,Nat.add_sub_cancel_left] at h2
 exact ⟨w2,r,b h2⟩
end

theorem built_rd:Tryz.prog.built 201=fun parts=>Instr.fill (fun i=>(#[(0,1)]:Array (Nat×Nat))[i]?) #[.pointer none] parts:=by kernel_rfl
theorem rd_build (g:Nat) (w:World):(Instr.build 201 #[(0,.pointer (some ⟨g,0,none⟩))]).run Tryz.prog w=.ok (.agg ([.pointer (some ⟨g,0,none⟩)]:List Value).toArray) w:=by
 apply run_build
 rw [built_rd]
 show Instr.fill _ _ [(0,_)]=_
 rw [fill_step (off:=0) (sz:=1) rfl (by simp [Value.cells]) (by simp)]
 simp [Instr.fill,Value.cells]
theorem rdZ (w:World):(zeroValue 201).run Tryz.prog w=.ok (.agg ([.pointer none]:List Value).toArray) w:=Tryz.zeroValue201 w
theorem rdA (w:World):(isAgg 201).run Tryz.prog w=.ok true w:=Tryz.isAgg201 w
theorem rdS (w:World):(sizeOf 201).run Tryz.prog w=.ok 1 w:=Tryz.sizeOf201 w
theorem prA (w:World):(isAgg 198).run Tryz.prog w=.ok false w:=Tryz.isAgg198 w
def set0:SetD:=⟨0,0,0,0,0⟩
def cat0:CatD:=⟨0,0,set0,[],[]⟩
theorem built_cat:Tryz.prog.built 47=fun parts=>Instr.fill (fun i=>(#[(0,1),(1,1),(2,5),(7,1),(8,1)]:Array (Nat×Nat))[i]?) catZ.toArray parts:=by kernel_rfl
theorem cat_build0 (w:World):(Instr.build 47 #[]).run Tryz.prog w=.ok (.agg catZ.toArray) w:=by
 apply run_build
 rw [built_cat]
 rfl
theorem cat_build2 (x y:Int) (w:World):(Instr.build 47 #[(0,.int .i64 x),(1,.int .i64 y)]).run Tryz.prog w=.ok (.agg (catC ⟨x,y,set0,[],[]⟩ none 0 0 none 0 0).toArray) w:=by
 apply run_build
 rw [built_cat]
 show Instr.fill _ _ [(0,_),(1,_)]=_
 rw [fill_step (off:=0) (sz:=1) rfl rfl (by simp [Value.cells,catZ]),fill_step (off:=1) (sz:=1) rfl rfl (by simp [Value.cells,catZ])]
 rfl
theorem built_set:Tryz.prog.built 44=fun parts=>Instr.fill (fun i=>(#[(0,1),(1,1),(2,1),(3,1),(4,1)]:Array (Nat×Nat))[i]?) (setC set0).toArray parts:=by kernel_rfl
theorem set_build (s:SetD) (w:World):(Instr.build 44 #[(0,.int .u64 (s.poly:Int)),(1,.int .i64 s.win),(2,.int .i64 s.min),(3,.int .i64 s.max),(4,.int .i64 s.bits)]).run Tryz.prog w=.ok (.agg (setC s).toArray) w:=by
 apply run_build
 rw [built_set]
 show Instr.fill _ _ [(0,_),(1,_),(2,_),(3,_),(4,_)]=_
 rw [fill_step (off:=0) (sz:=1) rfl rfl (by simp [Value.cells,setC]),fill_step (off:=1) (sz:=1) rfl rfl (by simp [Value.cells,setC]),fill_step (off:=2) (sz:=1) rfl rfl (by simp [Value.cells,setC]),
   fill_step (off:=3) (sz:=1) rfl rfl (by simp [Value.cells,setC]),fill_step (off:=4) (sz:=1) rfl rfl (by simp [Value.cells,setC])]
 rfl
theorem pq_build (p:PkD) (w:World):(Instr.build 91 #[(0,.int .i64 p.num),(1,.int .i64 p.size),(2,.int .i64 p.count)]).run Tryz.prog w=.ok (.agg (pkC p).toArray) w:=by
 have hb:Tryz.prog.built 91=fun parts=>Instr.fill (fun i=>(#[(0,1),(1,1),(2,1)]:Array (Nat×Nat))[i]?) ([.int .i64 0,.int .i64 0,.int .i64 0]:List Value).toArray parts:=by kernel_rfl
 apply run_build
 rw [hb]
 show Instr.fill _ _ [(0,_),(1,_),(2,_)]=_
 rw [fill_step (off:=0) (sz:=1) rfl rfl (by simp [Value.cells]),fill_step (off:=1) (sz:=1) rfl rfl (by simp [Value.cells]),fill_step (off:=2) (sz:=1) rfl rfl (by simp [Value.cells])]
 rfl

end Go.Proofs.YtpmhjnhgpplmnaaGreatDoor
end

section
namespace Go.Proofs.YtpmhjnhgpplmnaaGreatDoor
open Go Sx
set_option maxRecDepth 8000

theorem HoldsR.pushA {w w1:World} {g:Nat} {a0:Option Addr} {n0 c0:Nat} {l:List UInt8} {st:Option (List UInt8)} {N:List Res} (h:HoldsR w w1 g a0 n0 c0 l st N) {i t ty e sz by_:Nat} {z:Value} (E:ElemT Tryz.prog t e sz by_ z) {a:Option Addr} {n c:Nat} {xs:List Value} (hi:N[i]?=some (.row e sz (.slice a n c) n xs)) (cs:List Value) (hl:cs.length=sz) (hsz:sz≤16777216) (hv:∀v∈cs,v.oneCell'=true)
   (hb:(n+1)*by_≤140737488355328) (hm:n+1≤maxLen):
   ∃g' w2 va vc w3,(Instr.buildSlice t 1 #[(0,.agg cs.toArray)]).run Tryz.prog w1=.ok (.slice (some ⟨g',0,none⟩) 1 1) w2∧(Builtin.append_ #[t,t] ty #[.slice a n c,.slice (some ⟨g',0,none⟩) 1 1]).run Tryz.prog w2=.ok (.slice va (n+1) vc) w3∧
     HoldsR w w3 g a0 n0 c0 l st (N.set i (.row e sz (.slice va (n+1) vc) (n+1) (xs++cs)))∧HoldsR w w2 g a0 n0 c0 l st N:=by
 obtain ⟨M,hM,hS,b⟩:=h.on
 obtain ⟨g',w2,va,vc,w3,r1,r2,h3,h2⟩:=hS.pushA (i:=2+i) (ty:=ty) E (by rw [List.getElem?_append_right (by omega),hM,Nat.add_sub_cancel_left];exact hi) cs hl hsz hv hb hm
 rw [List.set_append_right _ _ (by omega),hM,Nat.add_sub_cancel_left] at h3
 exact ⟨g',w2,va,vc,w3,r1,r2,b h3,b h2⟩
theorem flat_one {α:Type} (f:α→List Value) (l:List α) (i:Nat) (x:α) (h:l[i]?=some x):(l.take (i+1)).flatMap f=(l.take i).flatMap f++f x:=by
 rw [List.take_add_one,h,List.flatMap_append];simp
theorem drop_one {α β:Type} (f:α→List β) (l:List α) (i:Nat) (x:α) (h:l[i]?=some x):(l.drop i).flatMap f=f x++(l.drop (i+1)).flatMap f:=by
 obtain ⟨hi,rfl⟩:=List.getElem?_eq_some_iff.1 h
 rw [List.drop_eq_getElem_cons hi,List.flatMap_cons]

set_option maxHeartbeats 8000000 in
theorem catDecode_spec (K:List UInt8) (hk:K.length=96) (C:CatD) (ok:CatOk C) (hc:checkB C=true) (a:Option Addr) (n c:Nat) (w:World) (hK:KTab w) (hr:RdB w a n c (encC K C)):
   Calls Tryz.prog 41 #[.agg (bv K).toArray,.slice a n c] w fun e w'=>∃sa sc pa pc,e=.returned (.tuple #[.agg (catC C sa C.snaps.length sc pa C.packs.length pc).toArray,errV none])∧St w [] w' [.row 89 36 (.slice sa C.snaps.length sc) C.snaps.length (C.snaps.flatMap snapC),.row 91 3 (.slice pa C.packs.length pc) C.packs.length (C.packs.flatMap pkC)]:=by
 obtain ⟨mI,hI⟩:=eI
 have hpl:=plain_len ok
 have hn:=hr.lenB
 have hel:(encC K C).length=(plainB C).length+45:=sealF_len K 4 catK (plainB C) (by omega)
 have hop:openF K 4 catK (encC K C)=some (plainB C):=open_sealF K 4 catK (plainB C) (by omega)
 have hoe:openE K 4 catK (encC K C)=none:=by unfold openE;rw [hop];rfl
 apply catalog_Decode_vc
 obtain ⟨g2,w1,r1,k1⟩:=(St.start w).boxA (P:=Tryz.prog) 41 (bv K)
 obtain ⟨g4,w2,r2,k2⟩:=k1.zeroA caZ16
 have k2:St w [] w2 [.arr g2 41 (bv K),.arr g4 47 catZ]:=k2
 obtain ⟨gc,w3,w4,r3,r4,c4,q4⟩:=litCtx w2
 have k4:=k2.same c4
 have ho:=open_spec K 4 _ 7 7 catK a n c (encC K C) w4 hk (hK.keep0 k4.chg) q4 (k4.rd1 hr) (by omega)
 rw [hop,hoe] at ho
 refine ⟨g2,w1,r1,g4,w2,r2,_,k2.ldA (i:=0) (l:=bv K) rfl (kyA' _) (kyS' _) (by simp [hk]),_,_,_,w3,r3,_,_,_,w4,r4,ho.mono ?_⟩
 rintro e w5 ⟨ba,bn,bc,rfl,f5⟩
 have f5:FreshB w4 w5 ba bn bc (plainB C):=f5
 have k5:=k4.same f5.1
 have hbn:=f5.rdB.lenB
 refine ⟨_,_,_,_,rfl,_,neqS_nil hI none _ _,fun h=>by simp at h,fun _=>(newReader_spec ba bn bc (plainB C) w5 f5.rdB (by omega)).mono ?_⟩
 rintro e w7 ⟨g,a0,c0,rfl,k7⟩
 have j7:=Sx.St.callPart (N:=[]) (by rw [List.append_nil];exact k5) k7
 have H7:HoldsR w w7 g a0 bn c0 (plainB C) (some (plainB C)) [.arr g2 41 (bv K),.arr g4 47 catZ]:=⟨a0,bn,c0,fun v hv=>hv,Nat.le_refl _,j7.perm (List.perm_append_comm (l₁:=[_,_]) (l₂:=[_,_]))⟩
 obtain ⟨g8,w8,r8,H8⟩:=H7.zeroA rdZ
 obtain ⟨w9,r9,H9⟩:=H8.stA (i:=2) (v:=[.pointer (some ⟨g,0,none⟩)]) rfl (rdS _) rfl rfl (by simp [Value.oneCell'])
 obtain ⟨B,hB⟩:∃B:List Res,[.arr g2 41 (bv K),.arr g4 47 catZ,.arr g8 201 [.pointer (some ⟨g,0,none⟩)]]=B:=⟨_,rfl⟩
 have H9:HoldsR w w9 g a0 bn c0 (plainB C) (some (plainB C)) B:=by rw [←hB];exact H9
 have hBl:B.length=3:=by rw [←hB];rfl
 let H (w':World) (st:Option (List UInt8)) (R:List Res):Prop:=HoldsR w w' g a0 bn c0 (plainB C) st (B++R)
 have ldR:∀ {w' st R},H w' st R→(Instr.loadAt 198 (.pointer (some ⟨g8,0,none⟩))).run Tryz.prog w'=.ok (.pointer (some ⟨g,0,none⟩)) w':=fun h=>(HoldsR.rest h).ldL (i:=2) (o:=0) (by rw [←hB];rfl) (prA _) rfl rfl
 have ldG:∀ {w' st R},H w' st R→(Instr.loadAt 201 (.pointer (some ⟨g8,0,none⟩))).run Tryz.prog w'=.ok (.agg ([.pointer (some ⟨g,0,none⟩)]:List Value).toArray) w':=fun h=>(HoldsR.rest h).ldA (i:=2) (l:=[.pointer (some ⟨g,0,none⟩)]) (by rw [←hB];rfl) (rdA _) (rdS _) rfl
 let S0:World→Prop:=fun w'=>∃st R,H w' st R
 -- what is read
 obtain ⟨T8,hT8⟩:∃T,varZ (C.packs.length:Int)++C.packs.flatMap pkB=T:=⟨_,rfl⟩
 obtain ⟨T7,hT7⟩:∃T,C.snaps.flatMap snapB++T8=T:=⟨_,rfl⟩
 have hL:plainB C=numZ C.gen++(numZ C.next++(numZ (polyZ C.set)++(varZ C.set.win++(varZ C.set.min++(varZ C.set.max++(varZ C.set.bits++(varZ (C.snaps.length:Int)++T7))))))):=by
   rw [←hT7,←hT8];simp [plainB,numsZ,varsZ,List.append_assoc]
 have hsn:=ok.sn
 have hpn:=ok.pn
 have qN:∀ {w' R z r},I63 z→H w' (some (numZ z++r)) R→Calls Tryz.prog 113 #[.pointer (some ⟨g,0,none⟩)] w' fun e w2=>e=.returned (.int .i64 z)∧H w2 (some r) R:=fun {w' R z r} hz h=>by
   have:=HoldsR.num h
   rw [(num_app hz r).1,(num_app hz r).2] at this;exact this
 have qV:∀ {w' R z r},N63 z→H w' (some (varZ z++r)) R→Calls Tryz.prog 114 #[.pointer (some ⟨g,0,none⟩)] w' fun e w2=>e=.returned (.int .i64 z)∧H w2 (some r) R:=fun {w' R z r} hz h=>by
   have:=HoldsR.varT h
   rw [(var_appZ hz r).1,(var_appZ hz r).2] at this;exact this
 let c9 (b:Nat) (C:CatD) (sa:Option Addr) (sn sc:Nat) (pa:Option Addr) (pn pc:Nat):Res:=.arr b 47 (catC C sa sn sc pa pn pc)
 have qA:∀ {w' st},H w' st []→∃g9 w2,(Instr.alloc 47 true (.tuple #[])).run Tryz.prog w'=.ok (.pointer (some ⟨g9,0,none⟩)) w2∧H w2 st [c9 g9 cat0 none 0 0 none 0 0]:=fun h=>by
   have h':=h
   obtain ⟨g9,w2,r,h2⟩:=HoldsR.zeroA h' caZ16
   rw [List.append_assoc] at h2
   exact ⟨g9,w2,r,h2⟩
 have ix:∀ {R:List Res} (i:Nat),(B++R)[3+i]?=R[i]?:=fun {R} i=>by rw [List.getElem?_append_right (by omega),hBl,Nat.add_sub_cancel_left]
 have sx:∀ {R:List Res} (i:Nat) (x:Res),(B++R).set (3+i) x=B++R.set i x:=fun {R} i x=>by rw [List.set_append_right _ _ (by omega),hBl,Nat.add_sub_cancel_left]
 obtain ⟨C1,hC1⟩:∃C1:CatD,C1=⟨C.gen,C.next,set0,[],[]⟩:=⟨_,rfl⟩
 obtain ⟨C2,hC2⟩:∃C2:CatD,C2=⟨C.gen,C.next,C.set,[],[]⟩:=⟨_,rfl⟩
 obtain ⟨T2,hT2⟩:∃T,numZ (polyZ C.set)++(varZ C.set.win++(varZ C.set.min++(varZ C.set.max++(varZ C.set.bits++(varZ (C.snaps.length:Int)++T7)))))=T:=⟨_,rfl⟩
 rw [hT2] at hL
 let J:Nat→Nat→World→Prop:=fun b o w'=>o=0∧H w' (some T2) [c9 b C1 none 0 0 none 0 0]
 have qS:∀ {w' g9},H w' (some T2) [c9 g9 cat0 none 0 0 none 0 0]→∃w2,(Instr.storeAt 47 (.pointer (some ⟨g9,0,none⟩)) (.agg (catC C1 none 0 0 none 0 0).toArray)).run Tryz.prog w'=.ok () w2∧J g9 0 w2:=fun {w' g9} h=>by
   have h':=h
   obtain ⟨w2,r,h2⟩:=HoldsR.stA h' (i:=3) (v:=catC C1 none 0 0 none 0 0) (ix 0) (caS16 _) rfl rfl (catC_one _ _ _ _ _ _ _)
   rw [sx 0] at h2
   exact ⟨w2,r,rfl,h2⟩
 have bld:∀v,(Instr.build 47 #[(0,.int .i64 C.gen),(1,.int .i64 C.next)]).run Tryz.prog v=.ok (.agg (catC C1 none 0 0 none 0 0).toArray) v:=fun v=>by rw [hC1];exact cat_build2 _ _ v
 have D9:H w9.drew (some (numZ C.gen++(numZ C.next++T2))) []:=by
   show HoldsR w w9.drew g a0 bn c0 (plainB C) _ (B++ [])
   rw [List.append_nil,←hL];exact H9.same (Chg.drew [] w9)
 refine ⟨g,0,rfl,_,rd_build g w7,g8,w8,r8,w9,r9,J,⟨S0,⟨_,_,D9⟩,_,_,fun v ⟨_,_,h⟩=>ldR h,_,_,fun v ⟨_,_,h⟩=>ldR h,(qN ok.gen D9).mono ?_,?_⟩,?_⟩
 · rintro e w10 ⟨rfl,H10⟩
   refine ⟨_,rfl,S0,fun _ h=>h,⟨_,_,H10⟩,(qN ok.next H10).mono ?_,?_⟩
   · rintro e w11 ⟨rfl,H11⟩
     obtain ⟨g9,w12,r12,H12⟩:=qA H11
     obtain ⟨w13,r13,j13⟩:=qS H12
     exact ⟨_,rfl,S0,fun _ h=>h,⟨_,_,H11⟩,_,fun v _=>bld v,g9,w12,r12,S0,fun _ h=>h,⟨_,_,H12⟩,w13,r13,j13⟩
   · obtain ⟨g9,w12,r12,H12⟩:=qA H10
     refine ⟨g9,w12,r12,S0,fun _ h=>h,⟨_,_,H12⟩,(qN ok.next H12).mono ?_⟩
     rintro e w11 ⟨rfl,H11⟩
     obtain ⟨w13,r13,j13⟩:=qS H11
     exact ⟨_,rfl,S0,fun _ h=>h,⟨_,_,H11⟩,_,fun v _=>bld v,w13,r13,j13⟩
 · obtain ⟨g9,w12,r12,H12⟩:=qA D9
   refine ⟨g9,w12,r12,S0,fun _ h=>h,⟨_,_,H12⟩,(qN ok.gen H12).mono ?_⟩
   rintro e w10 ⟨rfl,H10⟩
   refine ⟨_,rfl,S0,fun _ h=>h,⟨_,_,H10⟩,(qN ok.next H10).mono ?_⟩
   rintro e w11 ⟨rfl,H11⟩
   obtain ⟨w13,r13,j13⟩:=qS H11
   exact ⟨_,rfl,S0,fun _ h=>h,⟨_,_,H11⟩,_,fun v _=>bld v,w13,r13,j13⟩
 rintro g9 o w21 ⟨rfl,H21⟩
 rw [←hT2] at H21
 have H21:H w21.drew _ _:=HoldsR.same H21 (Chg.drew [] w21)
 refine ⟨S0,⟨_,_,H21⟩,_,_,fun v ⟨_,_,h⟩=>ldR h,_,_,fun v ⟨_,_,h⟩=>ldR h,_,_,fun v ⟨_,_,h⟩=>ldR h,_,_,fun v ⟨_,_,h⟩=>ldR h,_,_,fun v ⟨_,_,h⟩=>ldR h,(qN (polyZ_rng _) H21).mono ?_⟩
 rintro e w22 ⟨rfl,H22⟩
 refine ⟨_,rfl,S0,fun _ h=>h,⟨_,_,H22⟩,(qV ok.set.1 H22).mono ?_⟩
 rintro e w23 ⟨rfl,H23⟩
 refine ⟨_,rfl,S0,fun _ h=>h,⟨_,_,H23⟩,(qV ok.set.2.1 H23).mono ?_⟩
 rintro e w24 ⟨rfl,H24⟩
 refine ⟨_,rfl,S0,fun _ h=>h,⟨_,_,H24⟩,(qV ok.set.2.2.1 H24).mono ?_⟩
 rintro e w25 ⟨rfl,H25⟩
 refine ⟨_,rfl,S0,fun _ h=>h,⟨_,_,H25⟩,(qV ok.set.2.2.2 H25).mono ?_⟩
 rintro e w26 ⟨rfl,H26⟩
 obtain ⟨w27,r27,H27⟩:=HoldsR.stAt H26 (i:=3) (o:=2) (v:=setC C.set) (T:=44) (ix 0) (seS _) rfl (by simp [catC,setC]) (by simp [setC,Value.oneCell'])
 rw [sx 0] at H27
 have H27:H w27 (some (varZ (C.snaps.length:Int)++T7)) [c9 g9 C2 none 0 0 none 0 0]:=by rw [hC2];rw [hC1] at H27;exact H27
 refine ⟨_,rfl,S0,fun _ h=>h,⟨_,_,H26⟩,_,fun v _=>by rw [polyZ_back ok.poly];exact set_build _ v,w27,r27,_,_,ldR H27,(qV (z:=(C.snaps.length:Int)) ⟨by omega,by omega⟩ H27).mono ?_⟩
 rintro e w28 ⟨rfl,H28⟩
 obtain ⟨sn,hsl⟩:∃sn,C.snaps.length=sn:=⟨_,rfl⟩
 obtain ⟨pn,hpl2⟩:∃pn,C.packs.length=pn:=⟨_,rfl⟩
 rw [hsl,hpl2]
 rw [hsl] at hsn
 rw [hpl2] at hpn hT8
 let rS (sa:Option Addr) (i sc:Nat):Res:=.row 89 36 (.slice sa i sc) i ((C.snaps.take i).flatMap snapC)
 let rP (pa:Option Addr) (j pc:Nat):Res:=.row 91 3 (.slice pa j pc) j ((C.packs.take j).flatMap pkC)
 let I1:Nat→World→Prop:=fun i w'=>∃sa sc,H w' (some ((C.snaps.drop i).flatMap snapB++T8)) [c9 g9 C2 sa i sc none 0 0,rS sa i sc]
 have e28:I1 0 w28:=by
   refine ⟨none,0,?_⟩
   rw [←hT7] at H28
   obtain ⟨M,_,hS,b⟩:=HoldsR.on H28
   have h:=hS.addNil 89 36
   rw [List.append_assoc,List.append_assoc] at h
   exact b h
 refine ⟨_,rfl,fun x w'=>∃i:Nat,x=((sn-i:Nat):Int)∧i≤sn∧I1 i w',fun x _=>x.toNat,⟨0,rfl,by omega,e28⟩,?_⟩
 rintro x w29 ⟨i,rfl,hi,sa,sc,H29⟩
 refine ⟨fun t w'=>t=decide (i<sn)∧w'=w29,⟨fun h=>⟨_,_,ldR H29,(HoldsR.err H29).mono ?_⟩,fun h=>⟨?_,rfl⟩⟩,?_⟩
 · rintro e w30 ⟨rfl,rfl⟩
   refine ⟨_,rfl,_,eqlS_nil hI none _ _,?_,rfl⟩
   simp at h
   simp;omega
 · simp at h
   simp;omega
 rintro t w31 ⟨rfl,rfl⟩
 refine ⟨fun hlt=>?_,fun hge=>?_⟩
 · have hi':i<sn:=by simpa using hlt
   obtain ⟨s,hs⟩:∃s,C.snaps[i]?=some s:=⟨_,List.getElem?_eq_getElem (by omega)⟩
   rw [drop_one snapB C.snaps i s hs,List.append_assoc] at H29
   have H30:H w31.drew _ _:=HoldsR.same H29 (Chg.drew [] w31)
   let S:World→Prop:=fun w'=>∃st R,H w' st (c9 g9 C2 sa i sc none 0 0::R)
   have hsb:=catSnap_spec s (ok.snaps s (List.mem_of_getElem? hs)) (by omega) H30
   refine ⟨S,⟨_,_,H30⟩,_,_,_,fun v ⟨_,_,h⟩=>(HoldsR.rest h).ldL (i:=3) (o:=7) (ix 0) (ssA _) (by omega) rfl,_,fun v ⟨_,_,h⟩=>ldG h,hsb.mono ?_⟩
   rintro e w32 ⟨rfl,H32⟩
   have H32:H w32 _ _:=H32
   obtain ⟨gp,w33,va,vc,w34,r33,r34,H34,H33⟩:=HoldsR.pushA H32 (i:=4) (ty:=25) snT (ix 1) (snapC s) (snapC_len s) (by decide) (snapC_one s) (by omega) (by simp only [maxLen];omega)
   rw [sx 1] at H34
   have H34:H w34 (some ((C.snaps.drop (i+1)).flatMap snapB++T8)) [c9 g9 C2 sa i sc none 0 0,rS va (i+1) vc]:=by
     show HoldsR w w34 g a0 bn c0 (plainB C) _ (B++ [_,.row 89 36 (.slice va (i+1) vc) (i+1) ((C.snaps.take (i+1)).flatMap snapC)])
     rw [flat_one snapC C.snaps i s hs];exact H34
   obtain ⟨w35,r35,H35⟩:=HoldsR.stL H34 (i:=3) (o:=7) (v:=.slice va (i+1) vc) (T:=25) (ix 0) (ssS _) (by simp [catC,setC]) rfl
   rw [sx 0] at H35
   refine ⟨_,rfl,S,fun _ h=>h,⟨_,_,H32⟩,_,_,_,w33,r33,S,fun _ h=>h,⟨_,_,H33⟩,va,_,vc,w34,r34,S,fun _ h=>h,⟨_,_,H34⟩,w35,?_,⟨i+1,?_,by omega,va,vc,H35⟩,?_⟩
   · simpa using r35
   · rw [wrap_i64 (n:=((sn-i:Nat):Int)-1) (by omega) (by omega)];omega
   · show (IntKind.wrap .i64 (((sn-i:Nat):Int)-1)).toNat<(((sn-i:Nat):Int)).toNat
     rw [wrap_i64 (n:=((sn-i:Nat):Int)-1) (by omega) (by omega)];omega
 · have hi' : i = sn := by have : ¬ i < sn := by simpa using hge
                           omega
   have H31:H w31 (some (varZ (pn:Int)++C.packs.flatMap pkB)) [c9 g9 C2 sa sn sc none 0 0,rS sa sn sc]:=by
     rw [hi',←hsl,List.drop_length,hsl,List.flatMap_nil,List.nil_append,←hT8] at H29;exact H29
   refine ⟨_,_,ldR H31,(qV (z:=(pn:Int)) ⟨by omega,by omega⟩ H31).mono ?_⟩
   rintro e w36 ⟨rfl,H36⟩
   let I2:Nat→World→Prop:=fun j w'=>∃pa pc,H w' (some ((C.packs.drop j).flatMap pkB)) [c9 g9 C2 sa sn sc pa j pc,rS sa sn sc,rP pa j pc]
   have e36:I2 0 w36:=by
     refine ⟨none,0,?_⟩
     obtain ⟨M,_,hS,b⟩:=HoldsR.on H36
     have h:=hS.addNil 91 3
     rw [List.append_assoc,List.append_assoc] at h
     exact b h
   refine ⟨_,rfl,fun x w'=>∃j:Nat,x=((pn-j:Nat):Int)∧j≤pn∧I2 j w',fun x _=>x.toNat,⟨0,rfl,by omega,e36⟩,?_⟩
   rintro x w37 ⟨j,rfl,hj,pa,pc,H37⟩
   refine ⟨fun t w'=>t=decide (j<pn)∧w'=w37,⟨fun h=>⟨_,_,ldR H37,(HoldsR.err H37).mono ?_⟩,fun h=>⟨?_,rfl⟩⟩,?_⟩
   · rintro e w38 ⟨rfl,rfl⟩
     refine ⟨_,rfl,_,eqlS_nil hI none _ _,?_,rfl⟩
     simp at h
     simp;omega
   · simp at h
     simp;omega
   rintro t w39 ⟨rfl,rfl⟩
   refine ⟨fun hlt=>?_,fun hge=>?_⟩
   · have hj':j<pn:=by simpa using hlt
     obtain ⟨p,hp⟩:∃p,C.packs[j]?=some p:=⟨_,List.getElem?_eq_getElem (by omega)⟩
     have hpo:=ok.packs p (List.mem_of_getElem? hp)
     have epk:pkB p++(C.packs.drop (j+1)).flatMap pkB=varZ p.num++(varZ p.size++(varZ p.count++(C.packs.drop (j+1)).flatMap pkB)):=by simp [pkB,varsZ,List.append_assoc]
     rw [drop_one pkB C.packs j p hp,epk] at H37
     have H38:H w39.drew _ _:=HoldsR.same H37 (Chg.drew [] w39)
     let S:World→Prop:=fun w'=>∃st R,H w' st (c9 g9 C2 sa sn sc pa j pc::R)
     refine ⟨S,⟨_,_,H38⟩,_,_,_,fun v ⟨_,_,h⟩=>(HoldsR.rest h).ldL (i:=3) (o:=8) (ix 0) (psA _) (by omega) rfl,_,_,fun v ⟨_,_,h⟩=>ldR h,_,_,fun v ⟨_,_,h⟩=>ldR h,_,_,fun v ⟨_,_,h⟩=>ldR h,(qV hpo.1 H38).mono ?_⟩
     rintro e w40 ⟨rfl,H40⟩
     refine ⟨_,rfl,S,fun _ h=>h,⟨_,_,H40⟩,(qV hpo.2.1 H40).mono ?_⟩
     rintro e w41 ⟨rfl,H41⟩
     refine ⟨_,rfl,S,fun _ h=>h,⟨_,_,H41⟩,(qV hpo.2.2 H41).mono ?_⟩
     rintro e w42 ⟨rfl,H42⟩
     obtain ⟨gp,w43,va,vc,w44,r43,r44,H44,H43⟩:=HoldsR.pushA H42 (i:=5) (ty:=45) pqT (ix 2) (pkC p) rfl (by decide) (by simp [pkC,Value.oneCell']) (by omega) (by simp only [maxLen];omega)
     rw [sx 2] at H44
     have H44:H w44 (some ((C.packs.drop (j+1)).flatMap pkB)) [c9 g9 C2 sa sn sc pa j pc,rS sa sn sc,rP va (j+1) vc]:=by
       show HoldsR w w44 g a0 bn c0 (plainB C) _ (B++ [_,_,.row 91 3 (.slice va (j+1) vc) (j+1) ((C.packs.take (j+1)).flatMap pkC)])
       rw [flat_one pkC C.packs j p hp];exact H44
     obtain ⟨w45,r45,H45⟩:=HoldsR.stL H44 (i:=3) (o:=8) (v:=.slice va (j+1) vc) (T:=45) (ix 0) (psS _) (by simp [catC,setC]) rfl
     rw [sx 0] at H45
     refine ⟨_,rfl,S,fun _ h=>h,⟨_,_,H42⟩,_,fun v _=>pq_build p v,_,_,_,w43,r43,S,fun _ h=>h,⟨_,_,H43⟩,va,_,vc,w44,r44,S,fun _ h=>h,⟨_,_,H44⟩,w45,?_,⟨j+1,?_,by omega,va,vc,H45⟩,?_⟩
     · simpa using r45
     · rw [wrap_i64 (n:=((pn-j:Nat):Int)-1) (by omega) (by omega)];omega
     · show (IntKind.wrap .i64 (((pn-j:Nat):Int)-1)).toNat<(((pn-j:Nat):Int)).toNat
       rw [wrap_i64 (n:=((pn-j:Nat):Int)-1) (by omega) (by omega)];omega
   · have hj' : j = pn := by have : ¬ j < pn := by simpa using hge
                             omega
     have H39:H w39 (some []) [c9 g9 C2 sa sn sc pa pn pc,.row 89 36 (.slice sa sn sc) sn (C.snaps.flatMap snapC),.row 91 3 (.slice pa pn pc) pn (C.packs.flatMap pkC)]:=by
       rw [hj',←hpl2,List.drop_length,hpl2,List.flatMap_nil] at H37
       have e1:rS sa sn sc=.row 89 36 (.slice sa sn sc) sn (C.snaps.flatMap snapC):=by show Res.row _ _ _ _ ((C.snaps.take sn).flatMap snapC)=_;rw [←hsl,List.take_length]
       have e2:rP pa pn pc=.row 91 3 (.slice pa pn pc) pn (C.packs.flatMap pkC):=by show Res.row _ _ _ _ ((C.packs.take pn).flatMap pkC)=_;rw [←hpl2,List.take_length]
       rw [e1,e2] at H37;exact H37
     have hrS:RdS w39 sa sn sc C.snaps:=⟨(HoldsR.rest H39).rd (i:=4) (ix 1),fun s _=>snapC_len s⟩
     have hrP:RdE pkC 3 w39 pa pn pc C.packs:=⟨(HoldsR.rest H39).rd (i:=5) (ix 2),fun _ _=>rfl⟩
     have eC:catC C2 sa sn sc pa pn pc=catC C sa sn sc pa pn pc:=by rw [hC2];rfl
     have ld9:∀ {w'},H w' (some []) [c9 g9 C2 sa sn sc pa pn pc,.row 89 36 (.slice sa sn sc) sn (C.snaps.flatMap snapC),.row 91 3 (.slice pa pn pc) pn (C.packs.flatMap pkC)]→(Instr.loadAt 47 (.pointer (some ⟨g9,0,none⟩))).run Tryz.prog w'=.ok (.agg (catC C sa sn sc pa pn pc).toArray) w':=fun h=>by
       rw [←eC];exact (HoldsR.rest h).ldA (i:=3) (ix 0) (caA16 _) (caS16 _) rfl
     refine ⟨fun t w'=>t=false∧H w' (some []) [c9 g9 C2 sa sn sc pa pn pc,.row 89 36 (.slice sa sn sc) sn (C.snaps.flatMap snapC),.row 91 3 (.slice pa pn pc) pn (C.packs.flatMap pkC)],⟨_,_,ldR H39,(HoldsR.done H39).mono ?_⟩,?_⟩
     · rintro e w46 ⟨rfl,rfl⟩
       refine ⟨_,rfl,_,neqS_nil hI none _ _,fun h=>by simp at h,fun _=>⟨_,ld9 H39,(catCheck_spec C sa sn sc pa pn pc w46 ⟨ok.poly,hrS,hrP,fun s hs=>by have:=(ok.snaps s hs).1;omega⟩).mono ?_⟩⟩
       rintro e w47 ⟨rfl,c47⟩
       rw [hc]
       exact ⟨_,rfl,_,neqS_nil hI none _ _,rfl,HoldsR.same H39 c47⟩
     · rintro t w48 ⟨rfl,H48⟩
       refine ⟨fun h=>by simp at h,fun _=>?_⟩
       obtain ⟨w49,r49,H49⟩:=HoldsR.stA H48 (i:=1) (v:=catC C sa sn sc pa pn pc) (T:=47) (by rw [←hB];rfl) (caS16 _) rfl rfl (catC_one _ _ _ _ _ _ _)
       refine ⟨_,ld9 H48,w49,r49,_,(HoldsR.rest H49).ldVarA (i:=1) (l:=catC C sa sn sc pa pn pc) (by rw [←hB];rfl) (caA16 _) (caS16 _) rfl,sa,sc,pa,pc,rfl,?_⟩
       refine (HoldsR.rest H49).sub ?_
       rw [←hB]
       exact (List.sublist_append_right [_,_,_,_] [_,_])

end Go.Proofs.YtpmhjnhgpplmnaaGreatDoor
end

section
namespace Go.Proofs.YtpmhjnhgpplmnaaGreatDoor
open Go Go.RowKit Go.Extern.Stop Go.Stop Go.Extern
set_option maxRecDepth 8000

theorem isTypeOf65 (v:Value) (w:World):(Extern.ReflectliteType.typeOf #[.iface 65 v]).run Tryz.prog w=.ok (.iface 346 (.agg #[.pointer (some ⟨7,65,none⟩)])) w:=by kernel_rfl
def cmpE:Array Value→Sem Value:=Extern.ReflectliteType.method fun t=>do Extern.Rtype.noPackHeld "Comparable" t;pure (.bool (←typeInfo t).comparable)
theorem isComparable65 (w:World):(cmpE #[.agg #[.pointer (some ⟨7,65,none⟩)]]).run Tryz.prog w=.ok (.bool true) w:=by kernel_rfl
theorem isMethodComparable (v:Value) (w:World):(Go.method 614 346 v "Comparable").run Tryz.prog w=.ok (406,v) w:=by kernel_rfl
theorem noIs65 (v:Value) (xT:TypeId) (w:World):(Instr.typeAssert (.iface 65 v) xT 348 true).run Tryz.prog w=.ok (.tuple #[.nilIface,.bool false]) w:=run_typeAssert_lacksB Tryz.underlying348 (by kernel_rfl) (by kernel_rfl) v xT w
theorem noUnwrap65 (v:Value) (xT:TypeId) (w:World):(Instr.typeAssert (.iface 65 v) xT 351 true).run Tryz.prog w=.ok (.tuple #[.nilIface,.bool false]) w:=run_typeAssert_lacksB Tryz.underlying351 (by kernel_rfl) (by kernel_rfl) v xT w
theorem noUnwraps65 (v:Value) (xT:TypeId) (w:World):(Instr.typeAssert (.iface 65 v) xT 352 true).run Tryz.prog w=.ok (.tuple #[.nilIface,.bool false]) w:=run_typeAssert_lacksB Tryz.underlying352 (by kernel_rfl) (by kernel_rfl) v xT w
theorem eql65 (k n:Int) (w:World):(binOp .eql 58 (.iface 65 (.int .i64 k)) (.iface 65 (.int .i64 n))).run Tryz.prog w=.ok (.bool (k==n)) w:=by
 have hE:=Tryz.underlying65
 have hT:=Tryz.underlying58
 have hI:(typeInfo 65).run Tryz.prog w=.ok Tryz.t65 w:=by
   simp [typeInfo,show Tryz.prog.info? 65=some Tryz.t65 by kernel_rfl]
 have hc:Tryz.t65.comparable=true:=by kernel_rfl
 have h1:∀d k,(Op.equalIn (d+2) 58 (.iface 65 (.int .i64 k)) (.iface 65 (.int .i64 n))).run Tryz.prog w=.ok (k==n) w:=fun d k=>by
   simp [Op.equalIn,run_underlying hT,run_underlying hE,hI,hc]
 simp [binOp,Op.equal,show Op.maxDepth=9998+2 from rfl,h1 9998]

theorem is_nil65 (n:Int) (w:World):
   Calls Tryz.prog 90 #[.nilIface,.iface 65 (.int .i64 n)] w fun e w'=>e=.returned (.bool false)∧w'=w:=by
 have hn:=run_eql_iface_nil_left (P:=Tryz.prog) w 65 (.int .i64 n) Tryz.underlying58
 go_enter Tryz.func90,Tryz.ntmps90
 go_wp2
 go_ret
 exact ⟨rfl,rfl⟩
theorem is_65 (k n:Int) (w:World):
   Calls Tryz.prog 90 #[.iface 65 (.int .i64 k),.iface 65 (.int .i64 n)] w fun e w'=>e=.returned (.bool (k==n))∧w'=w:=by
 have h8:= @run_callFunc_extern Tryz.prog 184 _ Extern.ReflectliteType.typeOf Tryz.func184 (by kernel_rfl) (by kernel_rfl) (by kernel_rfl) (by kernel_rfl)
 have h32:= @run_callFunc_extern Tryz.prog 406 _ cmpE Tryz.func406 (by kernel_rfl) (by kernel_rfl) (by kernel_rfl) (by kernel_rfl)
 have tT:=isTypeOf65
 have cT:=isComparable65
 have mR:=isMethodComparable
 have nE:=noIs65
 have uE:=noUnwrap65
 have vE:=noUnwraps65
 have heq:=eql65 k n w
 cases hb:(k==n) with
 | true=>
   rw [hb] at heq
   go_enter Tryz.func90,Tryz.ntmps90
   go_wp2
   refine wp_loop_rounds 1 ?_
   rw [rounds_succ]
   go_wp2
   go_ret
   exact ⟨rfl,rfl⟩
 | false=>
   rw [hb] at heq
   go_enter Tryz.func90,Tryz.ntmps90
   go_wp2
   refine wp_loop_rounds 1 ?_
   rw [rounds_succ]
   go_wp2
   go_ret
   exact ⟨rfl,rfl⟩

open Sx in
theorem errIs_spec (o:Option Int) (n:Int) (w:World):Calls Tryz.prog 90 #[errV o,.iface 65 (.int .i64 n)] w fun e w'=>e=.returned (.bool (decide (o=some n)))∧w'=w:=by
 cases o with
 | none=>exact is_nil65 n w
 | some k=>
   refine (is_65 k n w).mono ?_
   rintro e w' ⟨rfl,rfl⟩
   have:decide (some k=some n)=(k==n):=by rw [Bool.eq_iff_iff];simp
   rw [this]
   exact ⟨rfl,rfl⟩

end Go.Proofs.YtpmhjnhgpplmnaaGreatDoor
end

section
namespace Go.Proofs.YtpmhjnhgpplmnaaGreatDoor
open Go Sx
set_option maxRecDepth 8000

structure FV where
 name:Nm
 a:Option Addr
 c:Nat
 data:List UInt8
def FV.cells (v:FV):List Value:=[strV v.name,.slice v.a v.data.length v.c]
def FV.row (v:FV):Res:=.row 5 1 (.slice v.a v.data.length v.c) v.data.length (bv v.data)
def FV.t (v:FV):Nm×List UInt8:=(v.name,v.data)
section
variable {w0 w w':World} {X:List Nat} {N N':List Res} {gd:Nat} {ps:List Nat} {m:DiskM}

theorem DMem.file {p:DP} (hp:DMem m p) {i:Nat} (hi:i<m.files.length):∃f,p.FL[i]?=some f∧p.ps.getD i 0=f.g∧fileAt m.files i=⟨f.data,f.syn⟩∧f.data.length≤1099511627776∧f.syn≤f.data.length:=by
 have hl:p.FL.length=m.files.length:=by have:=congrArg List.length hp.files;simpa using this
 have hf:p.FL[i]?=some p.FL[i]:=List.getElem?_eq_getElem (by omega)
 have hfm:fileAt m.files i=⟨p.FL[i].data,p.FL[i].syn⟩:=by
   rw [←hp.files]
   simp [fileAt,List.getD,show i<p.FL.length by omega,FR.m]
 have:=hp.fsyn (fileAt m.files i) (by simp [fileAt,List.getD,hi])
 rw [hfm] at this
 exact ⟨p.FL[i],hf,by simp [DP.ps,List.getD,show i<p.FL.length by omega],hfm,this.2,this.1⟩

end

end Go.Proofs.YtpmhjnhgpplmnaaGreatDoor
end

section
namespace Go.Proofs.YtpmhjnhgpplmnaaGreatDoor
open Go Sx
set_option maxRecDepth 8000

section
variable {w0 w w':World} {X:List Nat} {N N' T:List Res} {gd:Nat} {ps:List Nat} {m:DiskM}

theorem listD_spec (h:DiskIn w0 X w gd ps m N):Calls Tryz.prog 80 #[.pointer (some ⟨gd,0,none⟩)] w fun e w'=>∃a c,e=.returned (.slice a (namesM m).length c)∧St w [] w' [.row 9 1 (.slice a (namesM m).length c) (namesM m).length ((namesM m).map strV)]:=by
 obtain ⟨p,hps,hp,hS⟩:=h
 exact list_spec hp.mem hS
end

end Go.Proofs.YtpmhjnhgpplmnaaGreatDoor
end

section
namespace Go.Proofs.YtpmhjnhgpplmnaaGreatDoor
open Go Sx
set_option maxRecDepth 8000

def thenM (r:DiskM×Option Int) (f:DiskM→DiskM×Option Int):DiskM×Option Int:=match r.2 with
 | some e=>(r.1,some e)
 | none=>f r.1
def tN:Nm:=[116]
def hasN (m:DiskM) (n:Nm):Bool:=(namesM m).contains n
def downE (e:Int):Int:=if e=1 then 1 else 22
def undoM (n:Nm) (e:Int) (m:DiskM):DiskM×Option Int:=match (removeM m n).2 with
 | some x=>((removeM m n).1,some (downE x))
 | none=>match (syncDirM (removeM m n).1).2 with
   | some x=>((syncDirM (removeM m n).1).1,some (downE x))
   | none=>((syncDirM (removeM m n).1).1,some e)
def endM (n:Nm) (m:DiskM):DiskM×Option Int:=match (syncDirM m).2 with
 | none=>((syncDirM m).1,none)
 | some e=>if e=1 then ((syncDirM m).1,some 1) else undoM n e (syncDirM m).1
def stepC (b:List UInt8) (n:Nm) (i:Nat) (m:DiskM):DiskM×Option Int:=match i with
 | 0=>createM m tN
 | 1=>appendM m tN [b]
 | 2=>syncM m tN
 | 3=>syncDirM m
 | _=>renameM m tN n
def runC (b:List UInt8) (n:Nm):Nat→DiskM→DiskM×Option Int
 | 0,m=>endM n m
 | k+1,m=>thenM (stepC b n (4-k) m) (runC b n k)
def asideM (n:Nm) (m:DiskM):DiskM×Option Int:=if hasN m n then removeM m n else (m,none)
noncomputable def commitM (K:List UInt8) (C:CatD) (m:DiskM):DiskM×Option Int:=
 if checkB C then thenM (asideM tN m) (runC (encC K C) (nameD 99 C.gen) 5) else (m,some 28)

def Cnt (k:Nat) (m m':DiskM):Prop:=m'.steps≤m.steps+k∧m'.chs.length≤m.chs.length+k
theorem Cnt.refl (m:DiskM):Cnt 0 m m:=⟨Nat.le_refl _,Nat.le_refl _⟩
theorem Cnt.trans {j k:Nat} {a b c:DiskM} (h:Cnt j a b) (h2:Cnt k b c):Cnt (j+k) a c:=⟨by have:=h.1;have:=h2.1;omega,by have:=h.2;have:=h2.2;omega⟩
theorem Cnt.mono {j k:Nat} {a b:DiskM} (h:Cnt j a b) (hk:j≤k):Cnt k a b:=⟨by have:=h.1;omega,by have:=h.2;omega⟩
theorem step_cnt (m:DiskM):Cnt 1 m (stepM m).1:=by
 unfold stepM Cnt
 split
 · exact ⟨Nat.le_succ _,Nat.le_succ _⟩
 · split<;>exact ⟨Nat.le_refl _,Nat.le_succ _⟩
theorem steps_cnt (m:DiskM) {f:DiskM→DiskM} (hf:∀m,(f m).steps=m.steps∧(f m).chs.length≤m.chs.length+1):Cnt 1 m (stepsM m f).1:=by
 have h:=step_cnt m
 have hc:(stepM m).1.chs=m.chs:=by
   unfold stepM
   split
   · rfl
   · split<;>rfl
 unfold stepsM
 split
 · exact h
 · have:=hf (stepM m).1
   refine ⟨by have:=h.1;show (f (stepM m).1).steps≤_;omega,?_⟩
   rw [hc] at this
   exact this.2
theorem doCh_cnt (m:DiskM) (c:ChM):(doCh m c).steps=m.steps∧(doCh m c).chs.length≤m.chs.length+1:=⟨rfl,by simp [doCh]⟩
theorem create_cnt (m:DiskM) (n:Nm):Cnt 1 m (createM m n).1:=by
 unfold createM
 split
 · exact (Cnt.refl m).mono (by omega)
 · split
   · exact (Cnt.refl m).mono (by omega)
   · split
     · exact (Cnt.refl m).mono (by omega)
     · exact steps_cnt m fun m=>doCh_cnt m _
theorem append_cnt (m:DiskM) (n:Nm) (ps:List (List UInt8)):Cnt 1 m (appendM m n ps).1:=by
 unfold appendM
 split
 · exact (Cnt.refl m).mono (by omega)
 · split
   · exact steps_cnt m fun m=>⟨rfl,Nat.le_succ _⟩
   · exact (Cnt.refl m).mono (by omega)
theorem sync_cnt (m:DiskM) (n:Nm):Cnt 1 m (syncM m n).1:=by
 unfold syncM
 split
 · exact (Cnt.refl m).mono (by omega)
 · exact steps_cnt m fun m=>⟨rfl,Nat.le_succ _⟩
theorem syncDir_cnt (m:DiskM):Cnt 1 m (syncDirM m).1:=by
 unfold syncDirM
 split
 · exact (Cnt.refl m).mono (by omega)
 · exact steps_cnt m fun m=>⟨rfl,by simp [syncDirF]⟩
theorem rename_cnt (m:DiskM) (a b:Nm):Cnt 1 m (renameM m a b).1:=by
 unfold renameM
 split
 · exact (Cnt.refl m).mono (by omega)
 · split
   · exact (Cnt.refl m).mono (by omega)
   · exact steps_cnt m fun m=>doCh_cnt m _
theorem remove_cnt (m:DiskM) (n:Nm):Cnt 1 m (removeM m n).1:=by
 unfold removeM
 split
 · exact (Cnt.refl m).mono (by omega)
 · exact steps_cnt m fun m=>doCh_cnt m _
theorem stepC_cnt (b:List UInt8) (n:Nm) (i:Nat) (m:DiskM):Cnt 1 m (stepC b n i m).1:=by
 unfold stepC
 split
 · exact create_cnt _ _
 · exact append_cnt _ _ _
 · exact sync_cnt _ _
 · exact syncDir_cnt _
 · exact rename_cnt _ _ _
theorem aside_cnt (n:Nm) (m:DiskM):Cnt 1 m (asideM n m).1:=by
 unfold asideM
 split
 · exact remove_cnt _ _
 · exact (Cnt.refl m).mono (by omega)

theorem indexS_spec (a:Option Addr) (n c:Nat) (ns:List Nm) (x:Nm) (w:World) (hr:Rd w a n c 1 (ns.map strV)) (hb:n≤4611686018427387904):
   Calls Tryz.prog 183 #[.slice a n c,strV x] w fun e w'=>∃t:Int,e=.returned (.int .i64 t)∧decide (t≥0)=ns.contains x∧w'=w:=by
 have hln:ns.length=n:=by have:=hr.len;simpa using this
 apply slices_Index_string_string_vc
 refine ⟨fun y w'=>∃i:Nat,y=(i:Int)∧i≤n∧(ns.take i).contains x=false∧w'=w,fun y _=>n-y.toNat,⟨0,rfl,by omega,by simp,rfl⟩,?_⟩
 rintro y w1 ⟨i,rfl,hi,hno,rfl⟩
 refine ⟨fun h=>?_,fun h=>?_⟩
 · have hi':i<n:=by simp at h;omega
   obtain ⟨s,hs⟩:∃s,ns[i]?=some s:=⟨_,List.getElem?_eq_getElem (by omega)⟩
   obtain ⟨b,o,ha,hc⟩:=hr.cells.at_ (i:=i) (v:=strV s) (by rw [List.getElem?_map,hs];rfl)
   refine ⟨b,o,ha,by omega,by omega,_,by rw [Int.toNat_natCast,Nat.mul_one];exact ld1 (stA' _) hc,fun h=>?_,fun h=>⟨⟨i+1,wrap_succ hi' hb,by omega,?_,rfl⟩,mu_succ hi' hb⟩⟩
   · rw [ByteArray.toList_eq,ByteArray.toList_eq] at h
     have:x=s:=by simpa using h
     refine ⟨_,rfl,?_,rfl⟩
     have hm:ns.contains x=true:=by rw [List.contains_iff_mem,this];exact List.mem_of_getElem? hs
     rw [hm];simp
   · rw [ByteArray.toList_eq,ByteArray.toList_eq] at h
     have hne:x≠s:=by simpa using h
     rw [List.take_add_one,hs]
     rw [←Bool.not_eq_true,List.contains_iff_mem] at hno ⊢
     simp only [Option.toList,List.mem_append,List.mem_singleton,not_or]
     exact ⟨hno,hne⟩
 · have hi':i=n:=by simp at h;omega
   rw [hi',←hln,List.take_length] at hno
   exact ⟨_,rfl,by rw [hno];simp,rfl⟩
theorem containsS_spec (a:Option Addr) (n c:Nat) (ns:List Nm) (x:Nm) (w:World) (hr:Rd w a n c 1 (ns.map strV)) (hb:n≤4611686018427387904):
   Calls Tryz.prog 88 #[.slice a n c,strV x] w fun e w'=>e=.returned (.bool (ns.contains x))∧w'=w:=by
 apply slices_Contains_string_string_vc
 refine (indexS_spec a n c ns x w hr hb).mono ?_
 rintro e w' ⟨t,rfl,h1,rfl⟩
 exact ⟨t,rfl,by rw [h1],rfl⟩

end Go.Proofs.YtpmhjnhgpplmnaaGreatDoor
end

section
namespace Go.Proofs.YtpmhjnhgpplmnaaGreatDoor
open Go Sx
set_option maxRecDepth 8000

def pV (g:Nat):Value:=.pointer (some ⟨g,0,none⟩)
def clsV (f:Nat) (pre cb:List Value):Value:=.func (.func f) pre.toArray cb.toArray
theorem fn2_build (g3 g4 gd:Nat) (w:World):(Instr.build 355 #[(0,clsV 262 [] [pV g3,pV g4]),(1,clsV 84 [pV gd] [])]).run Tryz.prog w=.ok (.agg #[clsV 262 [] [pV g3,pV g4],clsV 84 [pV gd] []]) w:=by kernel_rfl
theorem fn2_ix0 (a b:Value) (w:World):(Instr.index 355 (.agg #[a,b]) (.int .i64 0)).run Tryz.prog w=.ok a w:=by kernel_rfl
theorem fn2_ix1 (a b:Value) (w:World):(Instr.index 355 (.agg #[a,b]) (.int .i64 1)).run Tryz.prog w=.ok b w:=by kernel_rfl
theorem fn5_build (g3 g7 gd g10:Nat) (w:World):(Instr.build 279 #[(0,clsV 186 [] [pV g3]),(1,clsV 187 [] [pV g3,pV g7]),(2,clsV 188 [] [pV g3]),(3,clsV 84 [pV gd] []),(4,clsV 189 [] [pV g3,pV g10])]).run Tryz.prog w=
   .ok (.agg #[clsV 186 [] [pV g3],clsV 187 [] [pV g3,pV g7],clsV 188 [] [pV g3],clsV 84 [pV gd] [],clsV 189 [] [pV g3,pV g10]]) w:=by kernel_rfl
theorem fn5_ix (a b c d e:Value) (w:World):(Instr.index 279 (.agg #[a,b,c,d,e]) (.int .i64 0)).run Tryz.prog w=.ok a w∧(Instr.index 279 (.agg #[a,b,c,d,e]) (.int .i64 1)).run Tryz.prog w=.ok b w∧(Instr.index 279 (.agg #[a,b,c,d,e]) (.int .i64 2)).run Tryz.prog w=.ok c w∧
   (Instr.index 279 (.agg #[a,b,c,d,e]) (.int .i64 3)).run Tryz.prog w=.ok d w∧(Instr.index 279 (.agg #[a,b,c,d,e]) (.int .i64 4)).run Tryz.prog w=.ok e w:=⟨by kernel_rfl,by kernel_rfl,by kernel_rfl,by kernel_rfl,by kernel_rfl⟩
theorem pdA (w:World):(isAgg 51).run Tryz.prog w=.ok false w:=Tryz.isAgg51 w

section
variable {w0 w w':World} {X:List Nat} {N T:List Res} {gd:Nat} {ps:List Nat} {m:DiskM}
theorem DiskIn.top (h:DiskIn w0 X w gd ps m (N++T)):St w0 X w T:=h.rest.sub (List.sublist_append_right _ _)
theorem DiskIn.cut (h:DiskIn w0 X w gd ps m (N++T)):DiskIn w0 X w gd ps m N:=h.subN (List.sublist_append_left _ _)

def B63 (k:Nat) (m:DiskM):Prop:=m.steps+k≤4611686018427387000∧m.chs.length+k≤999999000
theorem B63.of {j k:Nat} {m m':DiskM} (h:B63 (j+k) m) (hc:Cnt j m m'):B63 k m':=⟨by have:=h.1;have:=hc.1;omega,by have:=h.2;have:=hc.2;omega⟩
theorem B63.s {k:Nat} (h:B63 k m):m.steps<4611686018427387904:=by have:=h.1;omega
theorem B63.c {k:Nat} (h:B63 k m):m.chs.length<1000000000:=by have:=h.2;omega

theorem ldQ {T:List Res} {i g:Nat} {ty:TypeId} {v:Value} (h:St w0 X w T) (hi:T[i]?=some (.arr g ty [v])) (ha:(isAgg ty).run Tryz.prog w=.ok false w):(Instr.loadAt ty (pV g)).run Tryz.prog w=.ok v w:=h.ldL (i:=i) (o:=0) hi ha rfl rfl

theorem undo_spec (n:Nm) (e0:Int) (h:DiskIn w0 X w gd ps m N) (hb:B63 2 m):
   Calls Tryz.prog 191 #[pV gd,strV n,errV (some e0)] w fun e w'=>e=.returned (errV (undoM n e0 m).2)∧∃ps',DiskIn w0 X w' gd ps' (undoM n e0 m).1 N:=by
 obtain ⟨mI,hI⟩:=eI
 apply catalog_undo_vc
 obtain ⟨g3,w1,r1,k1⟩:=(St.start w).box (P:=Tryz.prog) 51 (pV gd)
 obtain ⟨g4,w2,r2,k2⟩:=k1.box (P:=Tryz.prog) 9 (strV n)
 have k2:St w [] w2 [.arr g3 51 [pV gd],.arr g4 9 [strV n]]:=k2
 have h2:=h.addSt k2
 refine ⟨g3,w1,r1,g4,w2,r2,clsV 262 [] [pV g3,pV g4],w2,rfl,_,_,ldQ (i:=0) k2 rfl (pdA _),clsV 84 [pV gd] [],w2,rfl,_,fn2_build g3 g4 gd w2,fun x w'=>(x=0∧∃ps',DiskIn w0 X w' gd ps' m (N++ [.arr g3 51 [pV gd],.arr g4 9 [strV n]]))∨(x=1∧(removeM m n).2=none∧∃ps',DiskIn w0 X w' gd ps' (removeM m n).1 (N++ [.arr g3 51 [pV gd],.arr g4 9 [strV n]]))∨(x=2∧undoM n e0 m=((syncDirM (removeM m n).1).1,some e0)∧∃ps',DiskIn w0 X w' gd ps' (syncDirM (removeM m n).1).1 (N++ [.arr g3 51 [pV gd],.arr g4 9 [strV n]])),fun x _=>(2-x).toNat,.inl ⟨rfl,ps,h2⟩,?_⟩
 rintro x w5 hx
 have hu1:∀y,(removeM m n).2=some y→undoM n e0 m=((removeM m n).1,some (downE y)):=fun y hy=>by unfold undoM;rw [hy]
 have hu2:∀y,(removeM m n).2=none→(syncDirM (removeM m n).1).2=some y→undoM n e0 m=((syncDirM (removeM m n).1).1,some (downE y)):=fun y hn hy=>by unfold undoM;rw [hn];simp only;rw [hy]
 have hu3:(removeM m n).2=none→(syncDirM (removeM m n).1).2=none→undoM n e0 m=((syncDirM (removeM m n).1).1,some e0):=fun hn hy=>by unfold undoM;rw [hn];simp only;rw [hy]
 refine ⟨fun hlt=>?_,fun hge=>?_⟩
 · rcases hx with ⟨rfl,ps',h5⟩ | ⟨rfl,hrm,ps',h5⟩ | ⟨rfl,_⟩
   · refine ⟨_,fn2_ix0 _ _ w5,262,[],[pV g3,pV g4],rfl,by kernel_rfl,?_⟩
     show Calls _ _ #[pV g3,pV g4] _ _
     apply catalog_undo_1_vc
     refine ⟨_,_,ldQ (i:=0) h5.top rfl (pdA _),_,ldQ (i:=1) h5.top rfl (stA' _),(remove_spec n h5 hb.s hb.c).mono ?_⟩
     rintro e w6 ⟨rfl,h6⟩
     refine ⟨_,rfl,_,rfl,(errIs_spec (removeM m n).2 1 w6).mono ?_⟩
     rintro e w7 ⟨rfl,rfl⟩
     refine ⟨_,rfl,fun h=>?_,fun h=>⟨_,neqS_nil hI _ _ _,fun h2=>?_,fun h2=>⟨.inr (.inl ⟨rfl,by simpa using h2,ps',h6⟩),by show (2-IntKind.wrap .i64 (0+1)).toNat<((2:Int)-0).toNat;decide⟩⟩⟩
     · have h:(removeM m n).2=some 1:=by simpa using h
       rw [hu1 1 h,h]
       exact ⟨rfl,ps',h6.cut⟩
     · obtain ⟨y,hy⟩:=Option.isSome_iff_exists.1 h2
       have hne:¬y=1:=by rw [hy] at h;simpa using h
       rw [hu1 y hy,downE,if_neg hne]
       exact ⟨rfl,ps',h6.cut⟩
   · have hb2:B63 1 (removeM m n).1:=hb.of (j:=1) (remove_cnt m n)
     refine ⟨_,fn2_ix1 _ _ w5,84,[pV gd],[],rfl,by kernel_rfl,?_⟩
     show Calls _ _ #[pV gd] _ _
     refine (syncDir_spec h5 hb2.s).mono ?_
     rintro e w6 ⟨rfl,h6⟩
     refine ⟨_,rfl,(errIs_spec (syncDirM (removeM m n).1).2 1 w6).mono ?_⟩
     rintro e w7 ⟨rfl,rfl⟩
     refine ⟨_,rfl,fun h=>?_,fun h=>⟨_,neqS_nil hI _ _ _,fun h2=>?_,fun h2=>⟨.inr (.inr ⟨rfl,hu3 hrm (by simpa using h2),ps',h6⟩),by show (2-IntKind.wrap .i64 (1+1)).toNat<((2:Int)-1).toNat;decide⟩⟩⟩
     · have h:(syncDirM (removeM m n).1).2=some 1:=by simpa using h
       rw [hu2 1 hrm h,h]
       exact ⟨rfl,ps',h6.cut⟩
     · obtain ⟨y,hy⟩:=Option.isSome_iff_exists.1 h2
       have hne:¬y=1:=by rw [hy] at h;simpa using h
       rw [hu2 y hrm hy,downE,if_neg hne]
       exact ⟨rfl,ps',h6.cut⟩
   · simp at hlt
 · rcases hx with ⟨rfl,_⟩ | ⟨rfl,_⟩ | ⟨rfl,hu,ps',h5⟩
   · simp at hge
   · simp at hge
   · rw [hu]
     exact ⟨rfl,ps',h5.cut⟩

theorem goodG_of {C:CatD} (h:checkB C=true):goodG C.gen=true:=by
 simp only [checkB,headB,Bool.and_eq_true,decide_eq_true_eq] at h
 rw [goodG_iff]
 exact ⟨h.1.1.1,h.1.1.2.1⟩

set_option maxHeartbeats 4000000 in
theorem commit_spec (K:List UInt8) (hk:K.length=96) (C:CatD) (sa:Option Addr) (sn sc:Nat) (pa:Option Addr) (pn pc:Nat) (h:DiskIn w0 [] w gd ps m N) (hK:KTab w0) (hT:PTab w0) (hr:CatR w C sa sn sc pa pn pc) (ok:checkB C=true→CatOk C) (hb:B63 20 m):
   Calls Tryz.prog 92 #[pV gd,.agg (bv K).toArray,.agg (catC C sa sn sc pa pn pc).toArray] w fun e w'=>e=.returned (errV (commitM K C m).2)∧∃ps',DiskIn w0 [] w' gd ps' (commitM K C m).1 N:=by
 obtain ⟨mI,hI⟩:=eI
 apply catalog_Commit_vc
 obtain ⟨g3,w1,r1,k1⟩:=(St.start w).box (P:=Tryz.prog) 51 (pV gd)
 obtain ⟨g4,w2,r2,k2⟩:=k1.boxA (P:=Tryz.prog) 41 (bv K)
 obtain ⟨g5,w3,r3,k3⟩:=k2.boxA (P:=Tryz.prog) 47 (catC C sa sn sc pa pn pc)
 have k3:St w [] w3 [.arr g3 51 [pV gd],.arr g4 41 (bv K),.arr g5 47 (catC C sa sn sc pa pn pc)]:=k3
 refine ⟨g3,w1,r1,g4,w2,r2,g5,w3,r3,_,k3.ldA (i:=1) (l:=bv K) rfl (kyA' _) (kyS' _) (by simp [hk]),_,k3.ldA (i:=2) (l:=catC C sa sn sc pa pn pc) rfl (caA16 _) (caS16 _) rfl,(catEncode_spec K hk C sa sn sc pa pn pc w3 (hK.keep0 (h.chg.trans k3.chg)) (hr.keep0 k3.chg) ok).mono ?_⟩
 rintro e w4 ⟨ea,en,ec,rfl,f4⟩
 have k4:=f4.add k3
 obtain ⟨g7,w5,r5,k5⟩:=k4.zero (z:=.slice none 0 0) (fun w=>Tryz.zeroValue26 w)
 have k5:St w [] w5 [.arr g3 51 [pV gd],.arr g4 41 (bv K),.arr g5 47 (catC C sa sn sc pa pn pc),.row 5 1 (.slice ea en ec) en (bv (if checkB C then encC K C else [])),.arr g7 26 [.slice none 0 0]]:=k5
 obtain ⟨w6,r6,k6⟩:=k5.stL (i:=4) (o:=0) (off:=0) (T:=26) (v:=.slice ea en ec) rfl (bsS _) rfl (by simp) rfl
 have h6:=h.addSt k6
 refine ⟨_,_,_,_,rfl,g7,w5,r5,w6,r6,_,neqS_nil hI _ _ _,fun hbad=>?_,fun hgood=>?_⟩
 · have hc:checkB C=false:=by
     cases hc:checkB C with
     | false=>rfl
     | true=>rw [hc] at hbad;simp at hbad
   have e1:commitM K C m=(m,some 28):=by unfold commitM;rw [hc];rfl
   rw [e1,hc]
   exact ⟨rfl,ps,h6.cut⟩
 have hc:checkB C=true:=by
   cases hc:checkB C with
   | true=>rfl
   | false=>rw [hc] at hgood;simp at hgood
 rw [hc] at h6
 obtain ⟨b,hbb⟩:∃b,encC K C=b:=⟨_,rfl⟩
 obtain ⟨nm,hnm⟩:∃nm,nameD 99 C.gen=nm:=⟨_,rfl⟩
 have e1:commitM K C m=thenM (asideM tN m) (runC b nm 5):=by unfold commitM;rw [hc,hbb,hnm];rfl
 obtain ⟨T1,hT1⟩:∃T1:List Res,[.arr g3 51 [pV gd],.arr g4 41 (bv K),.arr g5 47 (catC C sa sn sc pa pn pc),.row 5 1 (.slice ea en ec) en (bv b),.arr g7 26 [.slice ea en ec]]=T1:=⟨_,rfl⟩
 have h6:DiskIn w0 [] w6 gd ps m (N++T1):=by rw [←hT1,←hbb];exact h6
 have ld3:∀ {w':World} {T},St w0 [] w' (T1++T)→(Instr.loadAt 51 (pV g3)).run Tryz.prog w'=.ok (pV gd) w':=fun h=>ldQ (i:=0) h (by rw [←hT1];rfl) (pdA _)
 have ld3':∀ {w':World},St w0 [] w' T1→(Instr.loadAt 51 (pV g3)).run Tryz.prog w'=.ok (pV gd) w':=fun h=>ld3 (T:=[]) (by rw [List.append_nil];exact h)
 refine ⟨_,_,ld3' h6.top,(listD_spec h6).mono ?_⟩
 rintro e w7 ⟨la,lc,rfl,k7⟩
 have h7:=h6.addSt k7
 have hnl:(namesM m).length≤4096:=by have:=h.wf.okNow.len;simpa [namesM] using this
 refine ⟨_,_,_,rfl,(containsS_spec la _ lc (namesM m) tN w7 (h7.top.rd (i:=0) rfl) (by omega)).mono ?_⟩
 rintro e w8 ⟨rfl,rfl⟩
 have h7:=h7.cut
 refine ⟨_,rfl,fun w'=>(asideM tN m).2=none∧∃ps',DiskIn w0 [] w' gd ps' (asideM tN m).1 (N++T1),⟨fun hin=>?_,fun hout=>?_⟩,?_⟩
 · have hin:hasN m tN=true:=hin
   have ea:asideM tN m=removeM m tN:=by unfold asideM;rw [hin];rfl
   refine ⟨_,_,ld3' h7.top,(remove_spec tN h7 hb.s hb.c).mono ?_⟩
   rintro e w9 ⟨rfl,h9⟩
   refine ⟨_,rfl,_,neqS_nil hI _ _ _,fun hbad=>?_,fun hok=>⟨by rw [ea];simpa using hok,ps,by rw [ea];exact h9⟩⟩
   obtain ⟨y,hy⟩:=Option.isSome_iff_exists.1 hbad
   have e2:commitM K C m=((removeM m tN).1,some y):=by rw [e1,thenM,ea,hy]
   rw [e2,hy]
   exact ⟨rfl,ps,h9.cut⟩
 · have hout:hasN m tN=false:=hout
   have ea:asideM tN m=(m,none):=by unfold asideM;rw [hout];rfl
   exact ⟨by rw [ea],ps,by rw [ea];exact h7⟩
 rintro w10 ⟨ha,ps1,h10⟩
 obtain ⟨m1,hm1⟩:∃m1,(asideM tN m).1=m1:=⟨_,rfl⟩
 have hb1:B63 19 m1:=by rw [←hm1];exact hb.of (j:=1) (aside_cnt tN m)
 rw [hm1] at h10
 have e2:commitM K C m=runC b nm 5 m1:=by rw [e1,thenM,ha,hm1]
 have hgg:=goodG_of hc
 have hgr:=goodG_iff.1 hgg
 have hname:=catname_spec C.gen (by omega) w10 (hT.keep0 h10.chg)
 rw [hgg,if_pos rfl,hnm] at hname
 refine ⟨_,h10.top.ldL (i:=2) (o:=0) (l:=catC C sa sn sc pa pn pc) (by rw [←hT1];rfl) (intA _) rfl rfl,hname.mono ?_⟩
 rintro e w11 ⟨rfl,c11⟩
 obtain ⟨g10,w12,r12,k12⟩:=(St.start w11).zero (P:=Tryz.prog) (T:=9) (z:=.string ByteArray.empty) (fun w=>Tryz.zeroValue9 w)
 have k12:St w11 [] w12 [.arr g10 9 [.string ByteArray.empty]]:=k12
 obtain ⟨w13,r13,k13⟩:=k12.stL (i:=0) (o:=0) (off:=0) (T:=9) (v:=strV nm) rfl (stS' _) rfl (by simp) rfl
 have h13:=(h10.same c11).addSt k13
 obtain ⟨T2,hT2⟩:∃T2,T1++ [.arr g10 9 [strV nm]]=T2:=⟨_,rfl⟩
 have h13:DiskIn w0 [] w13 gd ps1 m1 (N++T2):=by rw [←hT2,←List.append_assoc];exact h13
 have ldP:∀ {w':World},St w0 [] w' T2→(Instr.loadAt 51 (pV g3)).run Tryz.prog w'=.ok (pV gd) w':=fun h=>by rw [←hT2] at h;exact ld3 h
 have ldN:∀ {w':World},St w0 [] w' T2→(Instr.loadAt 9 (pV g10)).run Tryz.prog w'=.ok (strV nm) w':=fun h=>ldQ (i:=5) h (by rw [←hT2,←hT1];rfl) (stA' _)
 have key:∀(i:Nat) (_:i<5) {w':World} {ps':List Nat} {m':DiskM},DiskIn w0 [] w' gd ps' m' (N++T2)→B63 5 m'→∃v,(Instr.index 279 (.agg #[clsV 186 [] [pV g3],clsV 187 [] [pV g3,pV g7],clsV 188 [] [pV g3],clsV 84 [pV gd] [],clsV 189 [] [pV g3,pV g10]]) (.int .i64 (i:Int))).run Tryz.prog w'=.ok v w'∧
     ∃(f:Nat) (pre cb:List Value),v=.func (.func f) ⟨pre⟩ ⟨cb⟩∧goesIn Tryz.prog f=true∧Calls Tryz.prog f (pre++([]:List Value)++cb).toArray w' fun e w''=>e=.returned (errV (stepC b nm i m').2)∧∃ps'',DiskIn w0 [] w'' gd ps'' (stepC b nm i m').1 (N++T2):=fun i hi {w' ps' m'} hd hbm=>by
   obtain ⟨i0,i1,i2,i3,i4⟩:=fn5_ix (clsV 186 [] [pV g3]) (clsV 187 [] [pV g3,pV g7]) (clsV 188 [] [pV g3]) (clsV 84 [pV gd] []) (clsV 189 [] [pV g3,pV g10]) w'
   have hcase:i=0∨i=1∨i=2∨i=3∨i=4:=by omega
   rcases hcase with rfl | rfl | rfl | rfl | rfl
   · refine ⟨_,i0,186,[],[pV g3],rfl,by kernel_rfl,?_⟩
     show Calls _ _ #[pV g3] _ _
     apply catalog_Commit_1_vc
     refine ⟨_,_,ldP hd.top,(create_spec tN hd hbm.s hbm.c).mono ?_⟩
     rintro e w'' ⟨rfl,ps'',hd2⟩
     exact ⟨_,rfl,rfl,ps'',hd2⟩
   · refine ⟨_,i1,187,[],[pV g3,pV g7],rfl,by kernel_rfl,?_⟩
     show Calls _ _ #[pV g3,pV g7] _ _
     apply catalog_Commit_2_vc
     obtain ⟨gl,w2',r2',k2'⟩:=(St.start w').lit bbT [.slice ea en ec] (by simp [Value.oneCell']) (by simp)
     refine ⟨_,_,ldP hd.top,_,_,_,ldQ (i:=4) hd.top (by rw [←hT2,←hT1];rfl) (bsA _),_,_,_,w2',r2',(append_spec tN _ 1 1 [.slice ea en ec] [b] (hd.addSt k2') (fun {w3 ps3 m3} h3=>⟨h3.top.rd (i:=0) rfl,row2_one (DiskIn.top (h3.cut) |>.rd (i:=3) (by rw [←hT2,←hT1];rfl))⟩) hbm.s (by decide)).mono ?_⟩
     rintro e w'' ⟨rfl,hd2⟩
     exact ⟨_,rfl,rfl,_,hd2.cut⟩
   · refine ⟨_,i2,188,[],[pV g3],rfl,by kernel_rfl,?_⟩
     show Calls _ _ #[pV g3] _ _
     apply catalog_Commit_3_vc
     refine ⟨_,_,ldP hd.top,(sync_spec tN hd hbm.s).mono ?_⟩
     rintro e w'' ⟨rfl,hd2⟩
     exact ⟨_,rfl,rfl,_,hd2⟩
   · refine ⟨_,i3,84,[pV gd],[],rfl,by kernel_rfl,?_⟩
     show Calls _ _ #[pV gd] _ _
     refine (syncDir_spec hd hbm.s).mono ?_
     rintro e w'' ⟨rfl,hd2⟩
     exact ⟨rfl,_,hd2⟩
   · refine ⟨_,i4,189,[],[pV g3,pV g10],rfl,by kernel_rfl,?_⟩
     show Calls _ _ #[pV g3,pV g10] _ _
     apply catalog_Commit_4_vc
     refine ⟨_,_,ldP hd.top,_,ldN hd.top,(rename_spec tN nm hd hbm.s hbm.c).mono ?_⟩
     rintro e w'' ⟨rfl,hd2⟩
     exact ⟨_,rfl,rfl,_,hd2⟩
 refine ⟨_,rfl,g10,w12,r12,w13,r13,clsV 186 [] [pV g3],w13,rfl,clsV 187 [] [pV g3,pV g7],w13,rfl,clsV 188 [] [pV g3],w13,rfl,_,_,ldP h13.top,clsV 84 [pV gd] [],w13,rfl,clsV 189 [] [pV g3,pV g10],w13,rfl,_,fn5_build g3 g7 gd g10 w13,fun x w'=>∃k:Nat,k≤5∧x=((5-k:Nat):Int)∧∃ps' m',DiskIn w0 [] w' gd ps' m' (N++T2)∧runC b nm 5 m1=runC b nm k m'∧Cnt (5-k) m1 m',fun x _=>(5-x).toNat,⟨5,by omega,rfl,ps1,m1,h13,rfl,Cnt.refl _⟩,?_⟩
 rintro x w19 ⟨k,hk5,rfl,ps2,m2,h19,hrun,hcnt⟩
 have hb2:B63 14 m2:=(show B63 (5-k+14) m1 from ⟨by have:=hb1.1;omega,by have:=hb1.2;omega⟩).of hcnt
 refine ⟨fun hlt=>?_,fun hge=>?_⟩
 · obtain ⟨j,rfl⟩:∃j,k=j+1:=⟨k-1,by simp at hlt;omega⟩
   obtain ⟨v,hv,f,pre,cb,hfv,hgi,hcall⟩:=key (5- (j+1)) (by omega) h19 (⟨by have:=hb2.1;omega,by have:=hb2.2;omega⟩)
   refine ⟨v,hv,f,pre,cb,hfv,hgi,hcall.mono ?_⟩
   rintro e w20 ⟨rfl,ps3,h20⟩
   have ej:5- (j+1)=4-j:=by omega
   rw [ej] at h20
   have hstep:runC b nm 5 m1=thenM (stepC b nm (4-j) m2) (runC b nm j):=by rw [hrun,runC]
   refine ⟨_,rfl,_,neqS_nil hI _ _ _,fun hbad=>?_,fun hok=>?_⟩
   · rw [ej] at hbad ⊢
     obtain ⟨y,hy⟩:=Option.isSome_iff_exists.1 hbad
     have e3:commitM K C m=((stepC b nm (4-j) m2).1,some y):=by rw [e2,hstep,thenM,hy]
     rw [e3,hy]
     exact ⟨rfl,ps3,h20.cut⟩
   · rw [ej] at hok
     have hok:(stepC b nm (4-j) m2).2=none:=by simpa using hok
     refine ⟨⟨j,by omega,?_,ps3,_,h20,by rw [hstep,thenM,hok],?_⟩,?_⟩
     · rw [wrap_i64 (n:=((5- (j+1):Nat):Int)+1) (by omega) (by omega)];omega
     · exact (hcnt.trans (stepC_cnt b nm (4-j) m2)).mono (by omega)
     · show (5-IntKind.wrap .i64 (((5- (j+1):Nat):Int)+1)).toNat<(5- ((5- (j+1):Nat):Int)).toNat
       rw [wrap_i64 (n:=((5- (j+1):Nat):Int)+1) (by omega) (by omega)];omega
 · obtain rfl:k=0:=by simp at hge;omega
   have e3:commitM K C m=endM nm m2:=by rw [e2,hrun,runC]
   refine ⟨_,_,ldP h19.top,(syncDir_spec h19 hb2.s).mono ?_⟩
   rintro e w21 ⟨rfl,h21⟩
   obtain ⟨m3,hm3⟩:∃m3,(syncDirM m2).1=m3:=⟨_,rfl⟩
   have hb3:B63 13 m3:=by rw [←hm3];exact hb2.of (j:=1) (syncDir_cnt m2)
   rw [hm3] at h21
   obtain ⟨o,ho⟩:∃o,(syncDirM m2).2=o:=⟨_,rfl⟩
   have e4:commitM K C m=(match (syncDirM m2).2 with
     | none=>(m3,none)
     | some e=>if e=1 then (m3,some 1) else undoM nm e m3):=by
     rw [e3,endM,hm3]
     all_goals (cases (syncDirM m2).2<;>rfl)
   rw [ho] at e4 ⊢
   refine ⟨_,rfl,fun t w'=>t=(decide (o=none)||decide (o=some 1))∧w'=w21,⟨_,eqlS_nil hI _ _ _,fun hn=>⟨?_,rfl⟩,fun hn=>(errIs_spec o 1 w21).mono ?_⟩,?_⟩
   · have:o=none:=by simpa using hn
     simp [this]
   · rintro e w22 ⟨rfl,rfl⟩
     have:¬o=none:=by rintro rfl;simp at hn
     exact ⟨_,rfl,by simp [this],rfl⟩
   rintro t w23 ⟨rfl,rfl⟩
   refine ⟨fun hyes=>?_,fun hno=>?_⟩
   · have hz:(o=none∨o=some 1):=by simpa using hyes
     rcases hz with rfl | rfl
     · rw [e4];exact ⟨rfl,ps2,h21.cut⟩
     · rw [e4];exact ⟨rfl,ps2,h21.cut⟩
   · have hz:¬o=none∧¬o=some 1:=by simpa using hno
     obtain ⟨y,rfl⟩:∃y,o=some y:=by
       cases o with
       | none=>exact absurd rfl hz.1
       | some y=>exact ⟨y,rfl⟩
     have hy1:¬y=1:=fun e=>hz.2 (by rw [e])
     have e5:commitM K C m=undoM nm y m3:=by rw [e4];simp only [hy1,if_false]
     refine ⟨_,_,ldP h21.top,_,ldN h21.top,(undo_spec nm y h21 ⟨by have:=hb3.1;omega,by have:=hb3.2;omega⟩).mono ?_⟩
     rintro e w24 ⟨rfl,ps4,h24⟩
     rw [e5]
     exact ⟨_,rfl,rfl,ps4,h24.cut⟩
end

end Go.Proofs.YtpmhjnhgpplmnaaGreatDoor
end

section
namespace Go.Proofs.YtpmhjnhgpplmnaaGreatDoor
open Go Sx
set_option maxRecDepth 8000

def genO (n:Nm):Option Int:=numO 99 1 1099511627776 n
def bestS (G:Nm→CatD) (b:CatD) (n:Nm):CatD:=match genO n with
 | some g=>if b.gen<g then G n else b
 | none=>b
def bestC (G:Nm→CatD) (ns:List Nm):CatD:=ns.foldl (bestS G) cat0
def anyG (ns:List Nm):Bool:=ns.any fun n=>(genO n).isSome
def CatsOk (K:List UInt8) (G:Nm→CatD) (m:DiskM):Prop:=∀n∈namesM m,∀g,genO n=some g→readF m n=encC K (G n)∧checkB (G n)=true∧CatOk (G n)∧(G n).gen=g

theorem found_mem {m:DiskM} (hw:WFD m) (hd:m.down=false) {n:Nm} (hn:n∈namesM m):foundE m n=none:=by
 obtain ⟨e,he,rfl⟩:=List.mem_map.1 hn
 have hg:=(hw.okNow.ent e he).2
 unfold foundE
 rw [hd,hg]
 have hf:findD m.now e.name=some e:=(findA_iff hw.okNow.asc).2 he
 rw [hf]
 simp
theorem name_len {m:DiskM} (hw:WFD m) {n:Nm} (hn:n∈namesM m):n.length≤64:=by
 obtain ⟨e,he,rfl⟩:=List.mem_map.1 hn
 have hg:=(hw.okNow.ent e he).2
 simp only [goodN,Bool.and_eq_true,decide_eq_true_eq] at hg
 exact hg.1.2
theorem genO_pos {n:Nm} {g:Int} (h:genO n=some g):1≤g∧g≤1099511627776:=by
 have:=(numO_iff (by omega) (by omega)).1 h
 exact ⟨this.1,this.2.1⟩
theorem best_gen {K:List UInt8} {G:Nm→CatD} {m:DiskM} (hG:CatsOk K G m) (i:Nat):(anyG ((namesM m).take i)=false∧bestC G ((namesM m).take i)=cat0)∨(anyG ((namesM m).take i)=true∧1≤(bestC G ((namesM m).take i)).gen):=by
 induction i with
 | zero=>exact .inl ⟨rfl,rfl⟩
 | succ i ih=>
   rw [List.take_add_one]
   cases hn:(namesM m)[i]? with
   | none=>simpa using ih
   | some n=>
     have e1:bestC G ((namesM m).take i++(some n).toList)=bestS G (bestC G ((namesM m).take i)) n:=by simp [bestC]
     have e2:anyG ((namesM m).take i++(some n).toList)=(anyG ((namesM m).take i)||(genO n).isSome):=by simp [anyG]
     rw [e1,e2]
     unfold bestS
     cases hg:genO n with
     | none=>simpa using ih
     | some g=>
       have hgp:=genO_pos hg
       obtain ⟨_,_,_,hgg⟩:=hG n (List.mem_of_getElem? hn) g hg
       right
       refine ⟨by simp,?_⟩
       simp only
       by_cases hlt:(bestC G ((namesM m).take i)).gen<g
       · rw [if_pos hlt];omega
       · rw [if_neg hlt]
         rcases ih with ⟨_,h⟩ | ⟨_,h⟩
         · rw [h] at hlt
           exact absurd (show cat0.gen<g by show (0:Int)<g;omega) hlt
         · exact h

set_option maxHeartbeats 4000000 in
theorem load_spec {w0 w:World} {N:List Res} {gd:Nat} {ps:List Nat} {m:DiskM} (K:List UInt8) (hk:K.length=96) (G:Nm→CatD) (hG:CatsOk K G m) (h:DiskIn w0 [] w gd ps m N) (hd:m.down=false) (hK:KTab w0) (hT:PTab w0) (hE:EVar w0):
   Calls Tryz.prog 91 #[pV gd,.agg (bv K).toArray] w fun e w'=>∃sa sc pa pc,e=.returned (.tuple #[.agg (catC (bestC G (namesM m)) sa (bestC G (namesM m)).snaps.length sc pa (bestC G (namesM m)).packs.length pc).toArray,errV (if anyG (namesM m) then none else some 21)])∧
     St w [] w' [.row 89 36 (.slice sa (bestC G (namesM m)).snaps.length sc) (bestC G (namesM m)).snaps.length ((bestC G (namesM m)).snaps.flatMap snapC),.row 91 3 (.slice pa (bestC G (namesM m)).packs.length pc) (bestC G (namesM m)).packs.length ((bestC G (namesM m)).packs.flatMap pkC)]:=by
 obtain ⟨mI,hI⟩:=eI
 have hw:=h.wf
 apply catalog_Load_vc
 obtain ⟨g3,w1,r1,k1⟩:=(St.start w).boxA (P:=Tryz.prog) 41 (bv K)
 obtain ⟨g4,w2,r2,k2⟩:=k1.zeroA caZ16
 refine ⟨g3,w1,r1,g4,w2,r2,(down_spec (h.same k2.chg)).mono ?_⟩
 rintro e w3 ⟨rfl,rfl⟩
 rw [hd]
 obtain ⟨g6,w5,r5,k5⟩:=k2.zeroA caZ16
 obtain ⟨w6,r6,k6⟩:=k5.stA (i:=2) (v:=catZ) rfl (caS16 _) rfl rfl (catC_one cat0 none 0 0 none 0 0)
 refine ⟨_,rfl,fun h=>by simp at h,fun _=>⟨_,cat_build0 w3,g6,w5,r5,w6,r6,(listD_spec (h.same k6.chg)).mono ?_⟩⟩
 rintro e w7 ⟨la,lc,rfl,kl⟩
 have hnl:(namesM m).length≤4096:=by have:=hw.okNow.len;simpa [namesM] using this
 obtain ⟨nl,hnn⟩:∃nl,(namesM m).length=nl:=⟨_,rfl⟩
 rw [hnn] at hnl kl ⊢
 have k7:=Sx.St.callPart (N:=[]) (by rw [List.append_nil];exact k6) kl
 let B (i:Nat):CatD:=bestC G ((namesM m).take i)
 let T (b:CatD) (sa:Option Addr) (sc:Nat) (pa:Option Addr) (pc:Nat):List Res:=[.arr g3 41 (bv K),.arr g4 47 catZ,.arr g6 47 (catC b sa b.snaps.length sc pa b.packs.length pc),.row 9 1 (.slice la nl lc) nl ((namesM m).map strV),.row 89 36 (.slice sa b.snaps.length sc) b.snaps.length (b.snaps.flatMap snapC),.row 91 3 (.slice pa b.packs.length pc) b.packs.length (b.packs.flatMap pkC)]
 have t7:St w [] w7 (T cat0 none 0 none 0):=(k7.addNil 89 36).addNil 91 3
 refine ⟨la,nl,lc,rfl,fun y x w'=>∃i:Nat,x=(i:Int)∧i≤nl∧y=(if anyG ((namesM m).take i) then 10 else 21)∧∃sa sc pa pc,St w [] w' (T (B i) sa sc pa pc),fun _ x _=>nl-x.toNat,⟨0,rfl,by omega,rfl,none,0,none,0,t7⟩,?_⟩
 rintro y x w8 ⟨i,rfl,hi,hy,sa,sc,pa,pc,k8⟩
 refine ⟨fun hlt=>?_,fun hge=>?_⟩
 · have hi':i<nl:=by simp at hlt;omega
   obtain ⟨n,hn⟩:∃n,(namesM m)[i]?=some n:=⟨_,List.getElem?_eq_getElem (by omega)⟩
   have hmem:=List.mem_of_getElem? hn
   obtain ⟨b,o,ha,hcell⟩:=(k8.rd (i:=3) rfl).cells.at_ (i:=i) (v:=strV n) (by rw [List.getElem?_map,hn];rfl)
   have hlen:=name_len hw hmem
   have eB:B (i+1)=bestS G (B i) n:=by show bestC G _=_;rw [List.take_add_one,hn];simp [bestC,B]
   have eA:anyG ((namesM m).take (i+1))=(anyG ((namesM m).take i)||(genO n).isSome):=by rw [List.take_add_one,hn];simp [anyG]
   refine ⟨b,o,ha,by omega,by omega,_,by rw [Int.toNat_natCast,Nat.mul_one];exact ld1 (stA' _) hcell,(catgen_spec n (by omega) w8 (hT.keep0 (h.chg.trans k8.chg)) (hE.keep0 (h.chg.trans k8.chg))).mono ?_⟩
   rintro e w9 ⟨rfl,c9⟩
   have k9:=k8.same c9
   cases hg:genO n with
   | none=>
     have hg':numO 99 1 1099511627776 n=none:=hg
     rw [hg'] 
     refine ⟨_,_,rfl,fun _=>⟨⟨i+1,wrap_succ hi' (by omega),by omega,?_,sa,sc,pa,pc,?_⟩,mu_succ hi' (by omega)⟩,fun h=>by simp at h⟩
     · rw [eA,hg];simpa using hy
     · have:B (i+1)=B i:=by rw [eB,bestS,hg]
       rw [this];exact k9
   | some g=>
     have hg':numO 99 1 1099511627776 n=some g:=hg
     obtain ⟨hrd,hck,hok,hgen⟩:=hG n hmem g hg
     have hf:=found_mem hw hd hmem
     rw [hg']
     refine ⟨_,_,rfl,fun h=>by simp at h,fun _=>⟨fun z w'=>z=10∧w'=w9,⟨fun _=>⟨rfl,rfl⟩,fun h=>⟨?_,rfl⟩⟩,?_⟩⟩
     · rw [hy] at h ⊢
       split at h
       · rename_i hh;rw [if_pos hh]
       · simp at h
     rintro z w10 ⟨rfl,rfl⟩
     refine (read_spec n (h.same k9.chg)).mono ?_
     rintro e w11 ⟨ra,rn,rc,rfl,f11⟩
     have k11:=k9.same f11.1
     have hrd11:RdB w11 ra rn rc (encC K (G n)):=by rw [←hrd];exact f11.rdB
     rw [hf]
     refine ⟨_,_,_,_,rfl,_,neqS_nil hI none _ _,fun h=>by simp at h,fun _=>⟨_,k11.ldA (i:=0) (l:=bv K) rfl (kyA' _) (kyS' _) (by simp [hk]),(catDecode_spec K hk (G n) hok hck ra rn rc w11 (hK.keep0 (h.chg.trans k11.chg)) hrd11).mono ?_⟩⟩
     rintro e w13 ⟨sa2,sc2,pa2,pc2,rfl,kd⟩
     have k13:=Sx.St.callPart (N:=[]) (by rw [List.append_nil];exact k11) kd
     obtain ⟨g14,w14,r14,k14⟩:=k13.zeroA caZ16
     obtain ⟨w15,r15,k15⟩:=k14.stA (i:=8) (v:=catC (G n) sa2 (G n).snaps.length sc2 pa2 (G n).packs.length pc2) rfl (caS16 _) rfl rfl (catC_one _ _ _ _ _ _ _)
     have k15:St w [] w15 (T (B i) sa sc pa pc++ [.row 89 36 (.slice sa2 (G n).snaps.length sc2) (G n).snaps.length ((G n).snaps.flatMap snapC),.row 91 3 (.slice pa2 (G n).packs.length pc2) (G n).packs.length ((G n).packs.flatMap pkC),.arr g14 47 (catC (G n) sa2 (G n).snaps.length sc2 pa2 (G n).packs.length pc2)]):=k15
     refine ⟨_,_,rfl,g14,w14,r14,w15,r15,fun t w'=>t=decide ((B i).gen<g)∧w'=w15,⟨_,eqlS_nil hI none _ _,fun _=>⟨_,k15.ldL (i:=8) (o:=0) rfl (intA _) rfl rfl,fun _=>⟨_,k15.ldL (i:=2) (o:=0) rfl (intA _) rfl rfl,?_,rfl⟩,fun h=>?_⟩,fun h=>by simp at h⟩,?_⟩
     · simp [GT.gt]
     · rw [hgen] at h;simp at h
     rintro t w16 ⟨rfl,rfl⟩
     have fin:∀ {w':World} sa sc pa pc,St w [] w' (T (B (i+1)) sa sc pa pc)→(∃j:Nat,IntKind.wrap .i64 ((i:Int)+1)=(j:Int)∧j≤nl∧(10:Int)=(if anyG ((namesM m).take j) then 10 else 21)∧∃sa sc pa pc,St w [] w' (T (B j) sa sc pa pc)):=fun sa sc pa pc hS=>⟨i+1,wrap_succ hi' (by omega),by omega,by rw [eA,hg];simp,sa,sc,pa,pc,hS⟩
     refine ⟨fun w'=>∃sa sc pa pc,St w [] w' (T (B (i+1)) sa sc pa pc),⟨fun hb=>?_,fun hb=>?_⟩,?_⟩
     · have hb:(B i).gen<g:=by simpa using hb
       have e1:B (i+1)=G n:=by rw [eB,bestS,hg];simp only;rw [if_pos hb]
       obtain ⟨w17,r17,k17⟩:=k15.stA (i:=2) (v:=catC (G n) sa2 (G n).snaps.length sc2 pa2 (G n).packs.length pc2) rfl (caS16 _) rfl rfl (catC_one _ _ _ _ _ _ _)
       refine ⟨_,k15.ldA (i:=8) (l:=catC (G n) sa2 (G n).snaps.length sc2 pa2 (G n).packs.length pc2) rfl (caA16 _) (caS16 _) rfl,w17,r17,sa2,sc2,pa2,pc2,?_⟩
       rw [e1]
       refine Sx.St.sub k17 ?_
       exact .cons_cons _ (.cons_cons _ (.cons_cons _ (.cons_cons _ (.cons _ (.cons _ (.cons_cons _ (.cons_cons _ (.cons _ .slnil))))))))
     · have hb:¬(B i).gen<g:=by simpa using hb
       have e1:B (i+1)=B i:=by rw [eB,bestS,hg];simp only;rw [if_neg hb]
       exact ⟨sa,sc,pa,pc,by rw [e1];exact k15.sub (List.sublist_append_left _ _)⟩
     rintro w18 ⟨sa3,sc3,pa3,pc3,k18⟩
     exact ⟨fin sa3 sc3 pa3 pc3 k18,mu_succ hi' (by omega)⟩
 · have hi':i=nl:=by simp at hge;omega
   have eB:B i=bestC G (namesM m):=by show bestC G _=_;rw [hi',←hnn,List.take_length]
   have eT:(namesM m).take i=namesM m:=by rw [hi',←hnn,List.take_length]
   rw [eB] at k8
   rw [eT] at hy
   have hbg:=best_gen hG i
   rw [eT] at hbg
   obtain ⟨w19,r19,k19⟩:=k8.stA (i:=1) (v:=catC (bestC G (namesM m)) sa (bestC G (namesM m)).snaps.length sc pa (bestC G (namesM m)).packs.length pc) rfl (caS16 _) rfl rfl (catC_one _ _ _ _ _ _ _)
   have k19:St w [] w19 ([_,.arr g4 47 (catC (bestC G (namesM m)) sa (bestC G (namesM m)).snaps.length sc pa (bestC G (namesM m)).packs.length pc),_,_]++ [_,_]):=k19
   refine ⟨_,k8.ldL (i:=2) (o:=0) rfl (intA _) rfl rfl,fun h0=>?_,fun h0=>?_⟩
   · refine ⟨_,k8.ldA (i:=2) (l:=catC (bestC G (namesM m)) sa (bestC G (namesM m)).snaps.length sc pa (bestC G (namesM m)).packs.length pc) rfl (caA16 _) (caS16 _) rfl,w19,r19,_,k19.ldVarA (i:=1) rfl (caA16 _) (caS16 _) rfl,sa,sc,pa,pc,?_,k19.sub (List.sublist_append_right _ _)⟩
     have h0:(bestC G (namesM m)).gen=0:=by simpa using h0
     have hn:anyG (namesM m)=false:=by
       rcases hbg with ⟨h,_⟩ | ⟨_,h⟩
       · exact h
       · omega
     rw [hy,hn];rfl
   · refine ⟨_,k8.ldA (i:=2) (l:=catC (bestC G (namesM m)) sa (bestC G (namesM m)).snaps.length sc pa (bestC G (namesM m)).packs.length pc) rfl (caA16 _) (caS16 _) rfl,w19,r19,_,k19.ldVarA (i:=1) rfl (caA16 _) (caS16 _) rfl,sa,sc,pa,pc,?_,k19.sub (List.sublist_append_right _ _)⟩
     have h0:¬(bestC G (namesM m)).gen=0:=by simpa using h0
     have hn:anyG (namesM m)=true:=by
       rcases hbg with ⟨_,h⟩ | ⟨h,_⟩
       · rw [h] at h0;exact absurd rfl h0
       · exact h
     rw [hn];rfl

end Go.Proofs.YtpmhjnhgpplmnaaGreatDoor
end

section
namespace Go.Proofs.YtpmhjnhgpplmnaaGreatDoor
open Go Go.Proofs.YtpmhjnhgpplmnaaGreatDoor.Sx

set_option maxRecDepth 100000
theorem amphoralaw16_plain_vc (a0:Int) (w:World) (R:Ending→World→Prop) (h:∃g2 w1,AlQ 47 g2 w w1∧(∃t4,(Instr.build 44 #[(0,(.int .u64 283)),(1,(.int .i64 1)),(2,(.int .i64 1)),(3,(.int .i64 4)),(4,(.int .i64 8))]).run Tryz.prog w1=.ok (.agg t4) w1∧(∃t5,(Instr.build 47 #[(0,(.int .i64 a0)),(2,(.agg t4))]).run Tryz.prog w1=.ok (.agg t5) w1∧(∃w2,StQ 47 g2 0 (.agg t5) w1 w2∧(∃r2,(loadVar 47 ⟨g2,0,none⟩).run Tryz.prog w2=.ok r2 w2∧(R (.returned r2) w2)))))):Calls Tryz.prog 93 #[(.int .i64 a0)] w R:=calls_of_ev2 (tc:=.sq [.reg (.op .bx .nil),.reg (.op .p (.op (.ld .agg) (.op (.ld .agg) (.op .u .nil))))] .leaf) Tryz.func93 (by kernel_rfl) (by kernel_rfl) h

theorem amphoralaw16_alive_vc  (w:World) (R:Ending→World→Prop) (h:∃t8,(Instr.build 39 #[(0,(.int .u8 1))]).run Tryz.prog w=.ok (.agg t8) w∧(Calls Tryz.prog 33 #[(.agg t8)] w fun e9 w1=>∃t9,e9=.returned (.agg t9)∧(∃g1 w2,AlQ 41 g1 w1 w2∧(∃w3,StQ 41 g1 0 (.agg t9) w2 w3∧(Calls Tryz.prog 55 #[(.int .i64 1000)] w3 fun e11 w4=>∃t11_0 t11_1,e11=.returned (.tuple #[t11_0,t11_1])∧(∃J:Bool→World→Prop,(∃t15,(eqlS .neq 58 (.tmp 14) (.const .nilIface) t11_1 .nilIface).run Tryz.prog w4=.ok (.bool t15) w4∧((t15=true→(J true w4))∧(t15=false→(∃t18,(eqlS .eql 51 (.tmp 17) (.const (.pointer none)) t11_0 (.pointer none)).run Tryz.prog w4=.ok (.bool t18) w4∧(J t18 w4)))))∧(∀x19,∀w5,J x19 w5→((x19=true→(R (.returned (.bool false)) w5))∧(x19=false→(∃t22,LdQ 41 g1 0 (.agg t22) w5∧(Calls Tryz.prog 91 #[t11_0,(.agg t22)] w5 fun e23 w6=>∃t23_0 t23_1,e23=.returned (.tuple #[(.agg t23_0),t23_1])∧(∃g4 w7,AlQ 47 g4 w6 w7∧(∃w8,StQ 47 g4 0 (.agg t23_0) w7 w8∧(∃S:World→Prop,S w8.drew∧(∃t27,(∀w',S w'→LdQ 41 g1 0 (.agg t27) w')∧(Calls Tryz.prog 93 #[(.int .i64 1)] w8.drew fun e28 w9=>∃t28,e28=.returned (.agg t28)∧(∃S_1:World→Prop,(∀w',S_1 w'→S w')∧S_1 w9∧(Calls Tryz.prog 92 #[t11_0,(.agg t27),(.agg t28)] w9 fun e29 w10=>∃t29,e29=.returned t29∧(∃S_2:World→Prop,(∀w',S_2 w'→S_1 w')∧S_2 w10∧(∃t32,LdQ 41 g1 0 (.agg t32) w10∧(Calls Tryz.prog 91 #[t11_0,(.agg t32)] w10 fun e33 w11=>∃t33_0 t33_1,e33=.returned (.tuple #[(.agg t33_0),t33_1])∧(∃g6 w12,AlQ 47 g6 w11 w12∧(∃w13,StQ 47 g6 0 (.agg t33_0) w12 w13∧(∃t37,(eqlS .eql 58 (.tmp 36) (.const .nilIface) t29 .nilIface).run Tryz.prog w13=.ok (.bool t37) w13∧((t37=true→(∃t41,(eqlS .eql 58 (.tmp 39) (.tmp 40) t23_1 (.iface 65 (.int .i64 21))).run Tryz.prog w13=.ok (.bool t41) w13∧((t41=true→(∃t45,(eqlS .eql 58 (.tmp 44) (.const .nilIface) t33_1 .nilIface).run Tryz.prog w13=.ok (.bool t45) w13∧((t45=true→(∃t49,LdQ 3 g6 0 (.int .i64 t49) w13∧(((t49==(1:Int))=true→(Calls Tryz.prog 61 #[t11_0] w13 fun e54 w14=>∃t54,e54=.returned (.int .i64 t54)∧(((t54==(6:Int))=true→(Calls Tryz.prog 80 #[t11_0] w14 fun e59 w15=>∃t59a t59n t59c,e59=.returned (.slice t59a t59n t59c)∧(R (.returned (.bool ((t59n:Int)==(1:Int)))) w15)))∧((t54==(6:Int))=false→(R (.returned (.bool false)) w14)))))∧((t49==(1:Int))=false→(R (.returned (.bool false)) w13)))))∧(t45=false→(R (.returned (.bool false)) w13)))))∧(t41=false→(R (.returned (.bool false)) w13)))))∧(t37=false→(R (.returned (.bool false)) w13))))))))))))))))))))))))))):Calls Tryz.prog 25 #[] w R:=calls_of_ev2 (tc:=.sq [.rg 1,.reg (.op (.ld .agg) (.op (.cl [.agg]) (.op .bx (.op .u .nil)))),.reg (.op (.cl [.val,.val]) (.pp 5 .nil)),.seq (.join (lr [(14,6)]) [19] [.bool] (.reg (.op .p (.op (.ld .bool) (.op .p (.sp 16 (.pp 3 .nil) (.op .p (.op (.ld .bool) (.op .p .nil))))))))) (.cond (.seq (.rg 1) .leaf) .leaf),.reg (.op .p (.op (.ld .agg) (.op (.cl [.agg,.val]) (.pp 3 (.op .bx (.op .u (.op .p .nil))))))),.drawS (.tk 0 .p (.ts 1 .agg (.go 2 (.cl [.agg]) (.go 3 (.cl [.val]) (.tk 4 .p .nil))))) [],.reg (.op .p (.op (.ld .agg) (.op (.cl [.agg,.val]) (.pp 3 (.op .bx (.op .u (.op .p .nil))))))),.reg (.op .p (.op (.ld .bool) (.op .p (.sp 38 (.pp 2 (.op (.ld .bool) (.pp 2 (.sp 43 (.op .p (.op (.ld .bool) (.pp 2 (.sp 47 (.op .p (.op (.ld (.int .i64)) (.pp 3 (.sp 52 (.op .p (.op (.cl [.int .i64]) (.pp 3 (.sp 57 (.op .p (.op (.cl [.slice]) (.pp 4 .nil))) (.pp 6 .nil))))) (.pp 11 .nil))))) (.pp 16 .nil))))) (.pp 20 .nil))))) (.pp 25 .nil)))))] .leaf) Tryz.func25 (by kernel_rfl) (by kernel_rfl) h

theorem amphoralaw16_large_vc (a0:Array Value) (w:World) (R:Ending→World→Prop) (h:∃g1 w1,(Instr.box 47 (.agg a0)).run Tryz.prog w=.ok (.pointer (some ⟨g1,0,none⟩)) w1∧(∃J:Bool→World→Prop,(∃t6a t6n t6c,LdQ 25 g1 7 (.slice t6a t6n t6c) w1∧((decide ((t6n:Int)>(100:Int))=true→(J true w1))∧(decide ((t6n:Int)>(100:Int))=false→(∃t11a t11n t11c,LdQ 45 g1 8 (.slice t11a t11n t11c) w1∧(J (decide ((t11n:Int)>(1100:Int))) w1)))))∧(∀x14,∀w2,J x14 w2→((x14=true→(R (.returned (.bool true)) w2))∧(x14=false→(∃t16a t16n t16c,LdQ 25 g1 7 (.slice t16a t16n t16c) w2∧(∃(I:Int→World→Prop) (μ:Int→World→Nat),I 0 w2∧(∀x18,∀w3,I x18 w3→((decide (x18<(t16n:Int))=true→(∃t20b t20o,t16a=some ⟨t20b,t20o,none⟩∧0≤x18∧x18<(t16n:Int)∧(∃t21,LdQ 89 t20b (t20o+Int.toNat x18*36) (.agg t21) w3∧(∃g4 w4,AlQ 89 g4 w3 w4∧(∃w5,StQ 89 g4 0 (.agg t21) w4 w5∧(∃t23,LdQ 9 g4 0 (.string t23) w5∧((decide ((t23.size:Int)>(100:Int))=true→(R (.returned (.bool true)) w5))∧(decide ((t23.size:Int)>(100:Int))=false→(I (IntKind.wrap .i64 (x18+1)) w5∧μ (IntKind.wrap .i64 (x18+1)) w5<μ x18 w3)))))))))∧(decide (x18<(t16n:Int))=false→(R (.returned (.bool false)) w3))))))))))):Calls Tryz.prog 32 #[(.agg a0)] w R:=calls_of_ev2 (tc:=.sq [.reg (.op .bx (.op .p .nil)),.seq (.join (lr [(5,10)]) [14] [.bool] (.reg (.op .p (.op (.ld .slice) (.pp 3 (.sp 9 (.pp 5 .nil) (.op .p (.op (.ld .slice) (.pp 3 .nil))))))))) (.cond (.seq (.rg 1) .leaf) .leaf),.seq (.reg (.op .p (.op (.ld .slice) (.pp 2 .nil)))) (.blk (.loop (lr [(2,1),(4,1),(18,9)]) [18] [.int .i64] (.sq [.rg 1,.cond .leaf .leaf,.blk (.sq [.reg (.op .ix (.op (.ld .agg) (.op .bx (.op .u .nil)))),.reg (.op .p (.op (.ld .str) (.pp 2 .nil)))] (.cond (.seq (.rg 1) .leaf) .leaf))] (.rg 2)))),.rg 1] .leaf) Tryz.func32 (by kernel_rfl) (by kernel_rfl) h

theorem amphoralaw16_CatalogForms_vc (a0:Array Value) (a1:Array Value) (w:World) (R:Ending→World→Prop) (h:∃g2 w1,(Instr.box 39 (.agg a0)).run Tryz.prog w=.ok (.pointer (some ⟨g2,0,none⟩)) w1∧(∃g3 w2,(Instr.box 47 (.agg a1)).run Tryz.prog w1=.ok (.pointer (some ⟨g3,0,none⟩)) w2∧(Calls Tryz.prog 25 #[] w2 fun e15 w3=>∃t15,e15=.returned (.bool t15)∧(((!t15)=true→(R (.returned (.bool false)) w3))∧((!t15)=false→(∃t17,LdQ 47 g3 0 (.agg t17) w3∧(Calls Tryz.prog 32 #[(.agg t17)] w3 fun e18 w4=>∃t18,e18=.returned (.bool t18)∧((t18=true→(R (.returned (.bool true)) w4))∧(t18=false→(∃t19,LdQ 39 g2 0 (.agg t19) w4∧(Calls Tryz.prog 33 #[(.agg t19)] w4 fun e20 w5=>∃t20,e20=.returned (.agg t20)∧(∃g5 w6,AlQ 41 g5 w5 w6∧(∃w7,StQ 41 g5 0 (.agg t20) w6 w7∧(∃t21,LdQ 47 g3 0 (.agg t21) w7∧(Calls Tryz.prog 34 #[(.agg t21)] w7 fun e22 w8=>∃t22,e22=.returned (.agg t22)∧(∃g6 w9,AlQ 47 g6 w8 w9∧(∃w10,StQ 47 g6 0 (.agg t22) w9 w10∧(∃t24,LdQ 41 g5 0 (.agg t24) w10∧(∃t25,LdQ 47 g6 0 (.agg t25) w10∧(Calls Tryz.prog 35 #[(.agg t24),(.agg t25)] w10 fun e26 w11=>∃t26_0a t26_0n t26_0c t26_1,e26=.returned (.tuple #[(.slice t26_0a t26_0n t26_0c),t26_1])∧(∃t30,LdQ 41 g5 0 (.agg t30) w11∧(∃t31,LdQ 47 g3 0 (.agg t31) w11∧(Calls Tryz.prog 36 #[(.agg t30),(.agg t31)] w11 fun e32 w12=>∃t32_0a t32_0n t32_0c t32_1,e32=.returned (.tuple #[(.slice t32_0a t32_0n t32_0c),(.int .i64 t32_1)])∧(∃J:Bool→World→Prop,(∃t36,(convert 26 9 (.slice t26_0a t26_0n t26_0c)).run Tryz.prog w12=.ok (.string t36) w12∧(∃t38,(convert 26 9 (.slice t32_0a t32_0n t32_0c)).run Tryz.prog w12=.ok (.string t38) w12∧(((!(t36.toList==t38.toList))=true→(J true w12))∧((!(t36.toList==t38.toList))=false→(Calls Tryz.prog 37 #[t26_1] w12 fun e42 w13=>∃t42,e42=.returned (.int .i64 t42)∧(((t42 != t32_1)=true→(J true w13))∧((t42 != t32_1)=false→(∃t47,LdQ 47 g6 0 (.agg t47) w13∧(Calls Tryz.prog 38 #[(.agg t47)] w13 fun e48 w14=>∃t48,e48=.returned t48∧(Calls Tryz.prog 37 #[t48] w14 fun e49 w15=>∃t49,e49=.returned (.int .i64 t49)∧(((t49 != t32_1)=true→(J true w15))∧((t49 != t32_1)=false→(∃t54,LdQ 47 g6 0 (.agg t54) w15∧(∃t55,LdQ 47 g3 0 (.agg t55) w15∧(Calls Tryz.prog 24 #[(.agg t54),(.agg t55)] w15 fun e56 w16=>∃t56,e56=.returned (.bool t56)∧(((!t56)=true→(J true w16))∧((!t56)=false→(∃t60,LdQ 47 g6 0 (.agg t60) w16∧(∃t61,LdQ 47 g3 0 (.agg t61) w16∧(Calls Tryz.prog 39 #[(.agg t60),(.agg t61)] w16 fun e62 w17=>∃t62,e62=.returned (.bool t62)∧(J (!t62) w17)))))))))))))))))))))∧(∀x64,∀w18,J x64 w18→((x64=true→(R (.returned (.bool false)) w18))∧(x64=false→(∃t65,LdQ 47 g6 0 (.agg t65) w18∧(Calls Tryz.prog 40 #[(.agg t65)] w18 fun e66 w19=>∃t66,e66=.returned (.agg t66)∧(∃g11 w20,AlQ 47 g11 w19 w20∧(∃w21,StQ 47 g11 0 (.agg t66) w20 w21∧(∃t67,LdQ 47 g11 0 (.agg t67) w21∧(∃t68,LdQ 47 g3 0 (.agg t68) w21∧(Calls Tryz.prog 24 #[(.agg t67),(.agg t68)] w21 fun e69 w22=>∃t69,e69=.returned (.bool t69)∧(((!t69)=true→(R (.returned (.bool false)) w22))∧((!t69)=false→(∃t72a t72n t72c,LdQ 25 g11 7 (.slice t72a t72n t72c) w22∧(∃(I:Int→World→Prop) (μ:Int→World→Nat),I 0 w22∧(∀x74,∀w23,I x74 w23→((decide (x74<(t72n:Int))=true→(∃t78a t78n t78c,LdQ 25 g11 7 (.slice t78a t78n t78c) w23∧(∃t80b t80o,t78a=some ⟨t80b,t80o,none⟩∧0≤x74∧x74<(t78n:Int)∧(∃w24,StQ 9 t80b (t80o+Int.toNat x74*36) (.string (ByteArray.mk #[111,118,101,114])) w23 w24∧(I (IntKind.wrap .i64 (x74+1)) w24∧μ (IntKind.wrap .i64 (x74+1)) w24<μ x74 w23)))))∧(decide (x74<(t72n:Int))=false→(∃t84a t84n t84c,LdQ 45 g11 8 (.slice t84a t84n t84c) w23∧(∃(I_1:Int→World→Prop) (μ_1:Int→World→Nat),I_1 0 w23∧(∀x86,∀w25,I_1 x86 w25→((decide (x86<(t84n:Int))=true→(∃t90a t90n t90c,LdQ 45 g11 8 (.slice t90a t90n t90c) w25∧(∃t92b t92o,t90a=some ⟨t92b,t92o,none⟩∧0≤x86∧x86<(t90n:Int)∧(∃w26,StQ 3 t92b (t92o+Int.toNat x86*3) (.int .i64 (-7)) w25 w26∧(I_1 (IntKind.wrap .i64 (x86+1)) w26∧μ_1 (IntKind.wrap .i64 (x86+1)) w26<μ_1 x86 w25)))))∧(decide (x86<(t84n:Int))=false→(∃t95,LdQ 47 g6 0 (.agg t95) w25∧(∃t96,LdQ 47 g3 0 (.agg t96) w25∧(Calls Tryz.prog 24 #[(.agg t95),(.agg t96)] w25 fun e97 w27=>∃t97,e97=.returned (.bool t97)∧(((!t97)=true→(R (.returned (.bool false)) w27))∧((!t97)=false→(((t32_1 != (0:Int))=true→(R (.returned (.bool true)) w27))∧((t32_1 != (0:Int))=false→(∃t102,LdQ 41 g5 0 (.agg t102) w27∧(Calls Tryz.prog 41 #[(.agg t102),(.slice t26_0a t26_0n t26_0c)] w27 fun e104 w28=>∃t104_0 t104_1,e104=.returned (.tuple #[(.agg t104_0),t104_1])∧(∃g14 w29,AlQ 47 g14 w28 w29∧(∃w30,StQ 47 g14 0 (.agg t104_0) w29 w30∧(∃t108,(eqlS .eql 58 (.tmp 107) (.const .nilIface) t104_1 .nilIface).run Tryz.prog w30=.ok (.bool t108) w30∧((t108=true→(∃t110,LdQ 47 g14 0 (.agg t110) w30∧(∃t111,LdQ 47 g3 0 (.agg t111) w30∧(Calls Tryz.prog 24 #[(.agg t110),(.agg t111)] w30 fun e112 w31=>∃t112,e112=.returned (.bool t112)∧(R (.returned (.bool t112)) w31)))))∧(t108=false→(R (.returned (.bool false)) w30))))))))))))))))))))))))))))))))))))))))))))))))))))))))))))):Calls Tryz.prog 5 #[(.agg a0),(.agg a1)] w R:=calls_of_ev2 (tc:=.sq [.reg (.op .bx (.op .bx (.op .p .nil))),.seq (.reg (.op (.cl [.bool]) (.op .p .nil))) (.cond (.seq (.rg 1) .leaf) .leaf),.seq (.reg (.op (.ld .agg) (.op (.cl [.bool]) .nil))) (.cond (.seq (.rg 1) .leaf) .leaf),.reg (.op (.ld .agg) (.op (.cl [.agg]) (.op .bx (.op .u .nil)))),.reg (.op (.ld .agg) (.op (.cl [.agg]) (.op .bx (.op .u .nil)))),.reg (.op (.ld .agg) (.op (.ld .agg) (.op (.cl [.slice,.val]) (.pp 5 .nil)))),.reg (.op (.ld .agg) (.op (.ld .agg) (.op (.cl [.slice,.int .i64]) (.pp 5 .nil)))),.seq (.join (lr [(35,30)]) [64] [.bool] (.reg (.op .p (.op (.ld .str) (.op .p (.op (.ld .str) (.pp 2 (.sp 40 (.pp 24 .nil) (.op .p (.op (.cl [.int .i64]) (.pp 4 (.sp 46 (.pp 18 .nil) (.op (.ld .agg) (.op (.cl [.val]) (.op (.cl [.int .i64]) (.pp 4 (.sp 53 (.pp 11 .nil) (.op (.ld .agg) (.op (.ld .agg) (.op (.cl [.bool]) (.pp 3 (.sp 59 (.pp 5 .nil) (.op (.ld .agg) (.op (.ld .agg) (.op (.cl [.bool]) (.pp 2 .nil)))))))))))))))))))))))))) (.cond (.seq (.rg 1) .leaf) .leaf),.reg (.op (.ld .agg) (.op (.cl [.agg]) (.op .bx (.op .u .nil)))),.seq (.reg (.op (.ld .agg) (.op (.ld .agg) (.op (.cl [.bool]) (.op .p .nil))))) (.cond (.seq (.rg 1) .leaf) .leaf),.seq (.reg (.op .p (.op (.ld .slice) (.pp 2 .nil)))) (.blk (.loop (lr [(12,1),(74,9)]) [74] [.int .i64] (.sq [.rg 1,.cond .leaf .leaf,.blk (.seq (.rg 2) (.reg (.op .p (.op (.ld .slice) (.op .p (.op .ix (.op .p (.op .u .nil))))))))] (.rg 2)))),.seq (.reg (.op .p (.op (.ld .slice) (.pp 2 .nil)))) (.blk (.loop (lr [(13,1),(86,9)]) [86] [.int .i64] (.sq [.rg 1,.cond .leaf .leaf,.blk (.seq (.rg 2) (.reg (.op .p (.op (.ld .slice) (.op .p (.op .ix (.op .p (.op .u .nil))))))))] (.rg 2)))),.seq (.reg (.op (.ld .agg) (.op (.ld .agg) (.op (.cl [.bool]) (.op .p .nil))))) (.cond (.seq (.rg 1) .leaf) .leaf),.seq (.rg 2) (.cond (.seq (.rg 1) .leaf) .leaf),.reg (.op (.ld .agg) (.op .p (.op (.cl [.agg,.val]) (.pp 3 (.op .bx (.op .u (.op .p .nil))))))),.reg (.op .p (.op (.ld .bool) (.op .p (.sp 109 (.op (.ld .agg) (.op (.ld .agg) (.op (.cl [.bool]) (.pp 2 .nil)))) (.pp 5 .nil)))))] .leaf) Tryz.func5 (by kernel_rfl) (by kernel_rfl) h

end Go.Proofs.YtpmhjnhgpplmnaaGreatDoor
end

section
namespace Go.Proofs.YtpmhjnhgpplmnaaGreatDoor
open Go Sx Gf2
set_option maxRecDepth 8000

def cmulN:Nat→Nat→Nat→Nat
 | 0,_,_=>0
 | k+1,a,b=>(if b%2=1 then a else 0)^^^(2*cmulN k a (b / 2))
theorem cmulN_eq:∀(k a b:Nat),b<2^k→cmulN k a b=Gf2.cmul a b
 | 0, a, b, h => by obtain rfl : b = 0 := by omega
                    simp [cmulN]
 | k+1,a,b,h=>by rw [cmul_step,cmulN,cmulN_eq k a (b / 2) (by rw [Nat.pow_succ] at h;omega)]
def no283:Bool:=(List.range 32).all fun b=>b<2||(List.range 256).all fun a=>cmulN 5 a b != 283
theorem no283_true:no283=true:=by kernel_rfl
theorem irr283:Irr 283:=by
 have hno:∀a b,2≤b→b<32→a<256→Gf2.cmul a b≠283:=fun a b h2 h32 ha h=>by
   have h1:=no283_true
   unfold no283 at h1
   rw [List.all_eq_true] at h1
   have h3:=h1 b (List.mem_range.2 h32)
   have hb:decide (b<2)=false:=by simp;omega
   rw [hb,Bool.false_or,List.all_eq_true] at h3
   have h4:=h3 a (List.mem_range.2 ha)
   rw [cmulN_eq 5 a b h32,h] at h4
   simp at h4
 refine ⟨by decide,fun a b h=>?_⟩
 have ha0:a≠0:=by rintro rfl;simp at h
 have hb0:b≠0:=by rintro rfl;simp at h
 have da:=Gf2.degIs_log ha0
 have db:=Gf2.degIs_log hb0
 have d2:=DegIs.cmul da _ b db
 rw [←h] at d2
 have d3:Gf2.DegIs 283 8:=⟨by decide,by decide⟩
 have hs:=d2.uniq d3
 by_cases h1:a=1
 · exact .inl h1
 by_cases h2:b=1
 · exact .inr h2
 exfalso
 have p1:a<256:=Nat.lt_of_not_le fun hl=>by
   have:8≤a.log2:=(Nat.le_log2 ha0).2 (by simpa using hl)
   have hb1:b.log2=0:=by omega
   have:=db.2
   rw [hb1] at this
   omega
 have p2:b<256:=Nat.lt_of_not_le fun hl=>by
   have:8≤b.log2:=(Nat.le_log2 hb0).2 (by simpa using hl)
   have ha1:a.log2=0:=by omega
   have:=da.2
   rw [ha1] at this
   omega
 by_cases hb4:b<32
 · exact hno a b (by omega) hb4 p1 h.symm
 · have hb5:5≤b.log2:=(Nat.le_log2 hb0).2 (by simpa using hb4)
   have ha4:a<32:=Nat.lt_of_not_le fun hl=>by
     have:5≤a.log2:=(Nat.le_log2 ha0).2 (by simpa using hl)
     omega
   exact hno b a (by omega) ha4 p2 (by rw [Gf2.cmul_comm];exact h.symm)
def setA:SetD:=⟨283,1,1,4,8⟩
theorem goodA:goodSet setA=true:=by
 have h1:degZ 283=8:=degZ_deg (d:=8) ⟨by decide,by decide⟩
 have h2:irrB 283=true:=(irrB_iff 283).2 irr283
 simp [goodSet,gd1,gd2,gd3,gd4,setA,h1,h2]
def catA (n:Int):CatD:=⟨n,0,setA,[],[]⟩
theorem check_catA (n:Int) (h:1≤n∧n≤1099511627776):checkB (catA n)=true:=by
 simp only [checkB,headB,catA,goodA]
 simp [ascB,pksB,h]
theorem okA (n:Int) (h:1≤n∧n≤1099511627776):CatOk (catA n):=
 ⟨⟨by show (-9223372036854775808:Int)≤n;omega,by show n≤(9223372036854775807:Int);omega⟩,⟨show (-9223372036854775808:Int)≤0 by decide,show (0:Int)≤9223372036854775807 by decide⟩,show 283<18446744073709551616 by decide,show N63 1∧N63 1∧N63 4∧N63 8 from ⟨⟨by decide,by decide⟩,⟨by decide,by decide⟩,⟨by decide,by decide⟩,⟨by decide,by decide⟩⟩,show 0≤64 by decide,show 0≤1024 by decide,by simp [catA],by simp [catA]⟩
theorem catA_rd (n:Int) (w:World):CatR w (catA n) none 0 0 none 0 0:=⟨by show 283<W64;unfold W64;decide,RdE.nil w,RdE.nil w,by simp [catA]⟩

theorem name1:nameD 99 1=[99,49]:=by
 have:Lib.itoa 1=Lib.decDigits 1:=Lib.itoa_nonneg 1
 rw [nameD,this,Lib.decDigits_one (by decide)]
 rfl
def q1 (s:Int):DiskM:=⟨s,[⟨[],0⟩],[⟨[116],0⟩],[],[⟨some 0,[],[116]⟩],1,false,none,[]⟩
def q2 (s:Int) (b:List UInt8):DiskM:=⟨s,[⟨b,0⟩],[⟨[116],0⟩],[],[⟨some 0,[],[116]⟩],2,false,none,[]⟩
def q3 (s:Int) (b:List UInt8):DiskM:=⟨s,[⟨b,b.length⟩],[⟨[116],0⟩],[],[⟨some 0,[],[116]⟩],3,false,none,[]⟩
def q4 (s:Int) (b:List UInt8):DiskM:=⟨s,[⟨b,b.length⟩],[⟨[116],0⟩],[⟨[116],0⟩],[],4,false,none,[]⟩
def q5 (s:Int) (b:List UInt8):DiskM:=⟨s,[⟨b,b.length⟩],[⟨[99,49],0⟩],[⟨[116],0⟩],[⟨none,[116],[99,49]⟩],5,false,none,[]⟩
def q6 (s:Int) (b:List UInt8):DiskM:=⟨s,[⟨b,b.length⟩],[⟨[99,49],0⟩],[⟨[99,49],0⟩],[],6,false,none,[]⟩
theorem thenM_none (m:DiskM) (f:DiskM→DiskM×Option Int):thenM (m,none) f=f m:=rfl
theorem runC_succ (b:List UInt8) (n:Nm) (k:Nat) (m:DiskM):runC b n (k+1) m=thenM (stepC b n (4-k) m) (runC b n k):=rfl
theorem first_commit (s:Int) (b:List UInt8) (hb:(b.length:Int)≤s):runC b [99,49] 5 (newM s)=(q6 s b,none):=by
 have e1:createM (newM s) tN=(q1 s,none):=rfl
 have e2:appendM (q1 s) tN [b]=(q2 s b,none):=by
   have hf:foundE (q1 s) tN=none:=rfl
   have hu:usedM (q1 s)=0:=rfl
   unfold appendM
   rw [hf,hu]
   have:fits (s- (0:Nat)) [b]=true:=by simp [fits];omega
   simp only
   rw [show (q1 s).size=s from rfl,this]
   show (appendF _ _ [b],none)=_
   simp [appendF,q1,q2,setF,fileAt,stepM,foundI,findD,findA,tN]
 have e3:syncM (q2 s b) tN=(q3 s b,none):=rfl
 have e4:syncDirM (q3 s b)=(q4 s b,none):=rfl
 have e5:renameM (q4 s b) tN [99,49]=(q5 s b,none):=rfl
 have e6:syncDirM (q5 s b)=(q6 s b,none):=rfl
 have f1:stepC b [99,49] (4-4) (newM s)=(q1 s,none):=e1
 have f2:stepC b [99,49] (4-3) (q1 s)=(q2 s b,none):=e2
 have f3:stepC b [99,49] (4-2) (q2 s b)=(q3 s b,none):=e3
 have f4:stepC b [99,49] (4-1) (q3 s b)=(q4 s b,none):=e4
 have f5:stepC b [99,49] (4-0) (q4 s b)=(q5 s b,none):=e5
 rw [runC_succ,f1,thenM_none,runC_succ,f2,thenM_none,runC_succ,f3,thenM_none,runC_succ,f4,thenM_none,runC_succ,f5,thenM_none]
 show endM _ (q5 s b)=_
 unfold endM
 rw [e6]
theorem commit_new (K:List UInt8) (s:Int) (hb:((encC K (catA 1)).length:Int)≤s):commitM K (catA 1) (newM s)=(q6 s (encC K (catA 1)),none):=by
 unfold commitM
 rw [check_catA 1 (by decide),if_pos rfl,show (catA 1).gen=1 from rfl,name1]
 have ha:asideM tN (newM s)=(newM s,none):=rfl
 rw [ha]
 exact first_commit s _ hb
theorem plainA_len (n:Int) (h:1≤n∧n≤1099511627776) (K:List UInt8):(encC K (catA n)).length≤200:=by
 have ok:=okA n h
 have hp:=plain_len ok
 rw [encC,sealF_len _ _ _ _ (by omega)]
 have h1:=varZ_le (z:=1) ⟨by decide,by decide⟩
 have h4:=varZ_le (z:=4) ⟨by decide,by decide⟩
 have h8:=varZ_le (z:=8) ⟨by decide,by decide⟩
 have h0:=varZ_le (z:=0) ⟨by decide,by decide⟩
 have:(plainB (catA n)).length≤100:=by
   simp only [plainB,catA,setA,numsZ,varsZ,List.map_cons,List.map_nil,List.flatten_cons,List.flatten_nil,List.append_nil,List.length_append,numZ_len,List.flatMap_nil,List.length_nil,Int.ofNat_zero,Int.natCast_zero]
   omega
 omega

theorem plain16_spec (n:Int) (w:World):Calls Tryz.prog 93 #[.int .i64 n] w fun e w'=>e=.returned (.agg (catC (catA n) none 0 0 none 0 0).toArray)∧Chg [] w w':=by
 apply amphoralaw16_plain_vc
 obtain ⟨g2,w1,r1,k1⟩:=(St.start w).zeroA caZ16
 obtain ⟨w2,r2,k2⟩:=k1.stA (i:=0) (v:=catC (catA n) none 0 0 none 0 0) rfl (caS16 _) rfl rfl (catC_one _ _ _ _ _ _ _)
 have hb:(Instr.build 47 #[(0,.int .i64 n),(2,.agg (setC setA).toArray)]).run Tryz.prog w1=.ok (.agg (catC (catA n) none 0 0 none 0 0).toArray) w1:=by
   apply run_build
   rw [built_cat]
   show Instr.fill _ _ [(0,_),(2,_)]=_
   rw [fill_step (off:=0) (sz:=1) rfl rfl (by simp [Value.cells,catZ]),fill_step (off:=2) (sz:=5) rfl rfl (by simp [Value.cells,catZ])]
   rfl
 exact ⟨g2,w1,r1,_,set_build setA w1,_,hb,w2,r2,_,k2.ldVarA (i:=0) rfl (caA16 _) (caS16 _) rfl,rfl,k2.chg⟩

end Go.Proofs.YtpmhjnhgpplmnaaGreatDoor
end

section
namespace Go.Proofs.YtpmhjnhgpplmnaaGreatDoor
open Go Sx
set_option maxRecDepth 8000

def mas1L:List UInt8:=1::List.replicate 31 0
theorem build_mas1L (w:World):(Instr.build 39 #[(0,.int .u8 1)]).run Tryz.prog w=.ok (.agg (bv mas1L).toArray) w:=by
 have:=build_arr (P:=Tryz.prog) (w:=w) (T:=39) (d32Z w) Tryz.underlying39 (Tryz.sizeOf5 w) [.int .u8 1] (by simp [Value.oneCell']) (by simp)
 exact this

theorem cats_new (K:List UInt8) (s:Int):CatsOk K (fun _=>cat0) (newM s):=fun n hn=>by simp [namesM,newM] at hn
theorem genO1:genO [99,49]=some 1:=(numO_iff (by omega) (by omega)).2 ⟨by decide,by decide,name1⟩
theorem cats_q6 (K:List UInt8) (s:Int):CatsOk K (fun _=>catA 1) (q6 s (encC K (catA 1))):=fun n hn g hg=>by
 have hn:n=[99,49]:=by simpa [namesM,q6] using hn
 subst hn
 rw [genO1] at hg
 simp only [Option.some.injEq] at hg
 subst hg
 exact ⟨rfl,check_catA 1 (by decide),okA 1 (by decide),rfl⟩
theorem best_q6 (K:List UInt8) (s:Int):bestC (fun _=>catA 1) (namesM (q6 s (encC K (catA 1))))=catA 1∧anyG (namesM (q6 s (encC K (catA 1))))=true:=by
 have hn:namesM (q6 s (encC K (catA 1)))=[[99,49]]:=rfl
 rw [hn]
 refine ⟨?_,?_⟩
 · show bestS (fun _=>catA 1) cat0 [99,49]=catA 1
   unfold bestS
   rw [genO1]
   exact if_pos (show (0:Int)<1 by decide)
 · simp [anyG,genO1]

set_option maxHeartbeats 2000000 in
theorem alive16_spec (w:World) (hK:KTab w) (hT:PTab w) (hE:EVar w):Calls Tryz.prog 25 #[] w fun e w'=>e=.returned (.bool true)∧Chg [] w w':=by
 obtain ⟨mI,hI⟩:=eI
 obtain ⟨K,hKK⟩:∃K,masterF mas1L=K:=⟨_,rfl⟩
 have hk:K.length=96:=by rw [←hKK];simp
 have hlen:=plainA_len 1 (by decide) K
 have hcm:=commit_new K 1000 (by omega)
 apply amphoralaw16_alive_vc
 refine ⟨_,build_mas1L w,(rfromMaster_spec mas1L w rfl).mono ?_⟩
 rintro e w1 ⟨rfl,c1⟩
 rw [hKK]
 obtain ⟨g1,w2,r2,k2⟩:=((St.start w).same c1).zeroA kyZ
 obtain ⟨w3,r3,k3⟩:=k2.stA (i:=0) (v:=bv K) rfl (kyS _) (by simp) (by simp [hk]) (bv_one _)
 have k3:St w [] w3 [.arr g1 41 (bv K)]:=k3
 refine ⟨_,rfl,g1,w2,r2,w3,r3,(newDisk_spec 1000 w3).mono ?_⟩
 rintro e w4 (⟨hbad,_⟩ | ⟨_,gd,rfl,h4⟩)
 · omega
 have h4:=DiskIn.under k3 h4
 have ldK:∀ {w':World} {ps m R},DiskIn w [] w' gd ps m (.arr g1 41 (bv K)::R)→(Instr.loadAt 41 (.pointer (some ⟨g1,0,none⟩))).run Tryz.prog w'=.ok (.agg (bv K).toArray) w':=fun h=>h.rest.ldA (i:=0) (l:=bv K) rfl (kyA _) (kyS _) (by simp [hk])
 refine ⟨_,_,rfl,fun x w'=>x=false∧w'=w4,⟨_,neqS_nil hI none _ _,fun h=>(by cases h),fun _=>⟨_,eqPtr .eql (.inl rfl) dkT _ _ _ _,rfl,rfl⟩⟩,?_⟩
 rintro x w5 ⟨rfl,rfl⟩
 refine ⟨fun h=>(by cases h),fun _=>⟨_,ldK h4,(load_spec K hk (fun _=>cat0) (cats_new K 1000) h4 rfl hK hT hE).mono ?_⟩⟩
 rintro e w6 ⟨sa,sc,pa,pc,rfl,k6⟩
 have h6:=h4.same k6.chg
 obtain ⟨g4,w7,r7,k7⟩:=(St.start w6).zeroA caZ16
 obtain ⟨w8,r8,k8⟩:=k7.stA (i:=0) (v:=catC cat0 sa 0 sc pa 0 pc) rfl (caS16 _) rfl rfl (catC_one _ _ _ _ _ _ _)
 have h8:=(h6.addSt k8).cut.same (Chg.drew [] w8)
 let S:World→Prop:=fun w'=>∃ps m,DiskIn w [] w' gd ps m [.arr g1 41 (bv K)]
 refine ⟨_,_,rfl,g4,w7,r7,w8,r8,S,⟨_,_,h8⟩,_,fun v ⟨_,_,h⟩=>ldK h,(plain16_spec 1 w8.drew).mono ?_⟩
 rintro e w9 ⟨rfl,c9⟩
 have h9:=h8.same c9
 refine ⟨_,rfl,S,fun _ h=>h,⟨_,_,h9⟩,(commit_spec K hk (catA 1) none 0 0 none 0 0 h9 hK hT (catA_rd 1 w9) (fun _=>okA 1 (by decide)) ⟨by decide,by decide⟩).mono ?_⟩
 rintro e w10 ⟨rfl,ps2,h10⟩
 rw [hcm] at h10 ⊢
 obtain ⟨b1,b2⟩:=best_q6 K 1000
 have hld:=load_spec K hk (fun _=>catA 1) (cats_q6 K 1000) h10 rfl hK hT hE
 rw [b1,b2] at hld
 refine ⟨_,rfl,S,fun _ h=>h,⟨_,_,h10⟩,_,ldK h10,hld.mono ?_⟩
 rintro e w11 ⟨sa2,sc2,pa2,pc2,rfl,k11⟩
 have h11:=h10.same k11.chg
 obtain ⟨g6,w12,r12,k12⟩:=(St.start w11).zeroA caZ16
 obtain ⟨w13,r13,k13⟩:=k12.stA (i:=0) (v:=catC (catA 1) sa2 0 sc2 pa2 0 pc2) rfl (caS16 _) rfl rfl (catC_one _ _ _ _ _ _ _)
 have h13:=h11.addSt k13
 refine ⟨_,_,rfl,g6,w12,r12,w13,r13,_,eqlS_nil hI none _ _,fun _=>⟨_,eqlS_err hI (some 21) 21 _ _ _,fun _=>⟨_,eqlS_nil hI none _ _,fun _=>⟨_,h13.top.ldL (i:=0) (o:=0) rfl (intA _) rfl rfl,fun _=>(steps_spec h13).mono ?_,fun h=>by simp [catA] at h⟩,fun h=>by simp at h⟩,fun h=>by simp at h⟩,fun h=>by simp at h⟩
 rintro e w14 ⟨rfl,rfl⟩
 refine ⟨_,rfl,fun _=>(listD_spec h13).mono ?_,fun h=>by simp [q6] at h⟩
 rintro e w15 ⟨la,lc,rfl,k15⟩
 exact ⟨_,_,_,rfl,rfl,(h13.same k15.chg).chg⟩

end Go.Proofs.YtpmhjnhgpplmnaaGreatDoor
end

section
namespace Go.Proofs.YtpmhjnhgpplmnaaGreatDoor
open Go Sx
set_option maxRecDepth 8000

theorem d12B (w:World):(Instr.build 287 #[]).run Tryz.prog w=.ok (.agg (bv (List.replicate 12 0)).toArray) w:=by
 have:=build_arr (P:=Tryz.prog) (w:=w) (T:=287) (d12Z w) Tryz.underlying287 (sB1 w) [] (by simp) (by simp)
 simpa using this

theorem rtag_spec (K:List UInt8) (k:UInt8) (a2:Option Addr) (n2 c2:Nat) (ctx:List UInt8) (a3:Option Addr) (n3 c3:Nat) (nonce:List UInt8) (a4:Option Addr) (n4 c4:Nat) (body:List UInt8) (w:World) (hk:K.length=96) (hr2:RdB w a2 n2 c2 ctx) (hr3:RdB w a3 n3 c3 nonce) (hr4:RdB w a4 n4 c4 body) (hb:n2+n3+n4≤67108000):
   Calls Tryz.prog 202 #[.agg (bv K).toArray,.int .u8 (k.toNat:Int),.slice a2 n2 c2,.slice a3 n3 c3,.slice a4 n4 c4] w fun e w'=>e=.returned (.agg (bv (tagF K k ctx nonce body)).toArray)∧Chg [] w w':=by
 have e2:=hr2.lenB
 have e3:=hr3.lenB
 have e4:=hr4.lenB
 apply amphoraref05_Tag_vc
 obtain ⟨g1,w1,r1,h1⟩:=(St.start w).boxA 41 (bv K)
 obtain ⟨g2,w2,r2,h2⟩:=h1.zeroA d32Z
 have h2d:=h2.drew
 obtain ⟨g3,w3,r3,c3',q3⟩:=litK k w2.drew
 have h3:=h2d.same c3'
 obtain ⟨g4,w4,r4,c4',q4,_⟩:=litC bbT [.slice (some ⟨g3,0,none⟩) 1 1,.slice a2 n2 c2,.slice a3 n3 c3,.slice a4 n4 c4] (by simp [Value.oneCell']) (by simp) w3
 have h4:=h3.same c4'
 have hrow:Row2 w4 [.slice (some ⟨g3,0,none⟩) 1 1,.slice a2 n2 c2,.slice a3 n3 c3,.slice a4 n4 c4] [[k],ctx,nonce,body]:=
   (row2_three (h4.rd1 hr2) (h4.rd1 hr3) (h4.rd1 hr4)).cons (q3.keep0 c4')
 refine ⟨g1,w1,r1,g2,w2,r2,by omega,by omega,_,_,_,_,r3,_,_,_,_,r4,(rpack_spec _ 4 4 _ [[k],ctx,nonce,body] w4 q4 hrow (by simp;omega) (by simp)).mono ?_⟩
 rintro e w5 ⟨a5,n5,c5,rfl,hf5⟩
 have h5:=h4.same hf5.1
 obtain ⟨g6,w6,r6,c6',q6,_⟩:=litC bbT [.slice a5 n5 c5] (by simp [Value.oneCell']) (by simp) w5
 have h6:=h5.same c6'
 have hpl:(packL [[k],ctx,nonce,body]).length≤67109864:=by
   have:=packL_len [[k],ctx,nonce,body] (by simp;omega)
   simp at this ⊢
   omega
 refine ⟨_,_,_,rfl,_,_,_,_,r6,(rmac_spec _ 32 32 (macKy K) _ 1 1 _ [packL [[k],ctx,nonce,body]] w6 (macK_rd h6 (i:=0) rfl hk).1 (by omega) q6 (row2_one (hf5.rdB.keep0 c6')) (by rw [List.flatten_cons,List.flatten_nil,List.append_nil];omega) (by decide)).mono ?_⟩
 rintro e w7 ⟨rfl,c7⟩
 have e1: [packL [[k],ctx,nonce,body]].flatten=packL [[k],ctx,nonce,body]:=by rw [List.flatten_cons,List.flatten_nil,List.append_nil]
 rw [e1]
 obtain ⟨w8,r8,h8⟩:=(h6.same c7).stA (i:=1) (v:=bv (tagF K k ctx nonce body)) rfl (d32S _) (by simp) (by simp) (bv_one _)
 exact ⟨_,rfl,w8,r8,_,h8.ldVarA (i:=1) (l:=bv (tagF K k ctx nonce body)) rfl (d32A _) (d32S _) (by simp),rfl,h8.chg⟩

theorem FreshB.blk {w w':World} {a:Option Addr} {n c:Nat} {l:List UInt8} (h:FreshB w w' a n c l):∀ad,a=some ad→w.heap.size≤ad.block:=by
 intro ad e
 subst e
 rcases h.2.2.2 with ⟨hv,_⟩ | ⟨g,cap,cur,hv,hb,_⟩
 · simp at hv
 · simp only [Value.slice.injEq,Option.some.injEq] at hv
   rw [hv.1]
   exact hb

end Go.Proofs.YtpmhjnhgpplmnaaGreatDoor
end

section
namespace Go.Proofs.YtpmhjnhgpplmnaaGreatDoor
open Go Sx
set_option maxRecDepth 8000

theorem rseal_spec (K:List UInt8) (k:UInt8) (a2:Option Addr) (n2 c2:Nat) (ctx:List UInt8) (a3:Option Addr) (n3 c3:Nat) (plain:List UInt8) (w:World)
   (hk:K.length=96) (hr2:RdB w a2 n2 c2 ctx) (hr3:RdB w a3 n3 c3 plain) (hb:n2+n3≤67100000):
   Calls Tryz.prog 103 #[.agg (bv K).toArray,.int .u8 (k.toNat:Int),.slice a2 n2 c2,.slice a3 n3 c3] w fun e w'=>∃a n c,e=.returned (.slice a n c)∧FreshB w w' a n c (sealF K k ctx plain):=by
 have e2:=hr2.lenB
 have e3:=hr3.lenB
 apply amphoraref05_Seal_vc
 obtain ⟨g1,w1,r1,h1⟩:=(St.start w).boxA 41 (bv K)
 have hd:=Chg.drew [] w1
 have P20:∀w' g,Chg [] w1 w'→RdB w' (some ⟨g,0,none⟩) 1 1 [k]→∃g2 w'',(Instr.buildSlice 24 3 #[(0,.slice (some ⟨g,0,none⟩) 1 1),(1,.slice a2 n2 c2),(2,.slice a3 n3 c3)]).run Tryz.prog w'=.ok (.slice (some ⟨g2,0,none⟩) 3 3) w''∧Chg [] w' w''∧
     Rd w'' (some ⟨g2,0,none⟩) 3 3 1 [.slice (some ⟨g,0,none⟩) 1 1,.slice a2 n2 c2,.slice a3 n3 c3]∧Row2 w'' [.slice (some ⟨g,0,none⟩) 1 1,.slice a2 n2 c2,.slice a3 n3 c3] [[k],ctx,plain]:=fun w' g hc hr=>by
   obtain ⟨g2,w2,r2,c2',q2,_⟩:=litC bbT [.slice (some ⟨g,0,none⟩) 1 1,.slice a2 n2 c2,.slice a3 n3 c3] (by simp [Value.oneCell']) (by simp) w'
   have hcc:=h1.chg.trans (hc.trans c2')
   exact ⟨g2,w2,r2,c2',q2,row2_three (hr.keep0 c2') (hr2.keep0 hcc) (hr3.keep0 hcc)⟩
 obtain ⟨P,hP⟩:∃P,packL [[k],ctx,plain]=P:=⟨_,rfl⟩
 have hpl:P.length≤67109864:=by
   have:=packL_len [[k],ctx,plain] (by simp;omega)
   rw [hP] at this
   simp at this
   omega
 have Ppk:∀w' g2 vs,Rd w' (some ⟨g2,0,none⟩) 3 3 1 vs→Row2 w' vs [[k],ctx,plain]→Calls Tryz.prog 163 #[.slice (some ⟨g2,0,none⟩) 3 3] w' fun e w''=>∃a n c,e=.returned (.slice a n c)∧FreshB w' w'' a n c P:=fun w' g2 vs q qr=>by
   have:=rpack_spec _ 3 3 vs [[k],ctx,plain] w' q qr (by simp;omega) (by simp)
   rw [hP] at this;exact this
 have P22:∀w' a n c,RdB w' a n c P→∃g2 w'',(Instr.buildSlice 24 1 #[(0,.slice a n c)]).run Tryz.prog w'=.ok (.slice (some ⟨g2,0,none⟩) 1 1) w''∧Chg [] w' w''∧Rd w'' (some ⟨g2,0,none⟩) 1 1 1 [.slice a n c]∧Row2 w'' [.slice a n c] [P]:=fun w' a n c hr=>by
   obtain ⟨g2,w2,r2,c2',q2,_⟩:=litC bbT [.slice a n c] (by simp [Value.oneCell']) (by simp) w'
   exact ⟨g2,w2,r2,c2',q2,row2_one (hr.keep0 c2')⟩
 obtain ⟨d,hdd⟩:∃d,macF (nameK K) P=d:=⟨_,rfl⟩
 have hdl:d.length=32:=by rw [←hdd];exact macF_len _ _
 have Pm:∀w' g2 vs,Chg [] w1 w'→Rd w' (some ⟨g2,0,none⟩) 1 1 1 vs→Row2 w' vs [P]→Calls Tryz.prog 162 #[.slice (some ⟨g1,64,none⟩) 32 32,.slice (some ⟨g2,0,none⟩) 1 1] w' fun e w''=>e=.returned (.agg (bv d).toArray)∧Chg [] w' w'':=fun w' g2 vs hc q qr=>by
   have e1: [P].flatten=P:=by rw [List.flatten_cons,List.flatten_nil,List.append_nil]
   have:=rmac_spec _ 32 32 (nameK K) _ 1 1 vs [P] w' (macK_rd (h1.same hc) (i:=0) rfl hk).2 (by omega) q qr (by rw [e1];omega) (by decide)
   rw [e1,hdd] at this;exact this
 have hsf:sealF K k ctx plain=[k]++d.take 12++overF K (d.take 12) plain++tagF K k ctx (d.take 12) (overF K (d.take 12) plain):=by rw [sealF,nonceF,hP,hdd]
 have fin:∀g9 w7,St w [] w7 [.arr g1 41 (bv K),.arr g9 39 (bv (List.replicate 32 0))]→∃w8,(Instr.storeAt 39 (.pointer (some ⟨g9,0,none⟩)) (.agg (bv d).toArray)).run Tryz.prog w7=.ok () w8∧(0=0∧St w [] w8 [.arr g1 41 (bv K),.arr g9 39 (bv d)]):=fun g9 w7 h7=>by
   obtain ⟨w8,r8,h8⟩:=h7.stA (i:=1) (v:=bv d) rfl (d32S _) (by simp) (by simp [hdl]) (bv_one _)
   exact ⟨w8,r8,rfl,h8⟩
 obtain ⟨g3,w3,r3,c3',q3⟩:=litK k w1.drew
 have d3:=hd.trans c3'
 obtain ⟨g4,w4,r4,c4',q4,qr4⟩:=P20 w3 g3 d3 q3
 have d4:=d3.trans c4'
 refine ⟨g1,w1,r1,fun b o w'=>o=0∧St w [] w' [.arr g1 41 (bv K),.arr b 39 (bv d)],⟨by omega,by omega,⟨_,_,_,_,r3,⟨_,_,_,_,r4,(Ppk w4 g4 _ q4 qr4).mono ?_,?_⟩,?_⟩,?_⟩,?_⟩
 · rintro e w5 ⟨a5,n5,c5,rfl,hf5⟩
   have d5:=d4.trans hf5.1
   refine ⟨_,_,_,rfl,?_,?_⟩
   · obtain ⟨g6,w6,r6,c6',q6,qr6⟩:=P22 w5 _ _ _ hf5.rdB
     have d6:=d5.trans c6'
     refine ⟨_,_,_,_,r6,(Pm w6 g6 _ d6 q6 qr6).mono ?_,?_⟩
     · rintro e w7 ⟨rfl,c7⟩
       obtain ⟨g9,w9,r9,h9⟩:=(h1.same (d6.trans c7)).zeroA d32Z
       exact ⟨_,rfl,g9,w9,r9,fin g9 w9 h9⟩
     · obtain ⟨g9,w9,r9,h9,c9⟩:=(h1.same d6).zeroAC d32Z
       refine ⟨g9,w9,r9,(Pm w9 g6 _ (d6.trans c9) (q6.keep0 c9) (qr6.keep0 c9)).mono ?_⟩
       rintro e w10 ⟨rfl,c10⟩
       exact ⟨_,rfl,fin g9 w10 (h9.same c10)⟩
   · obtain ⟨g9,w9,r9,h9,c9⟩:=(h1.same d5).zeroAC d32Z
     obtain ⟨g6,w6,r6,c6',q6,qr6⟩:=P22 w9 _ _ _ (hf5.rdB.keep0 c9)
     refine ⟨g9,w9,r9,_,_,_,_,r6,(Pm w6 g6 _ ((d5.trans c9).trans c6') q6 qr6).mono ?_⟩
     rintro e w10 ⟨rfl,c10⟩
     exact ⟨_,rfl,fin g9 w10 (h9.same (c6'.trans c10))⟩
 · obtain ⟨g9,w9,r9,h9,c9⟩:=(h1.same d4).zeroAC d32Z
   refine ⟨g9,w9,r9,(Ppk w9 g4 _ (q4.keep0 c9) (qr4.keep0 c9)).mono ?_⟩
   rintro e w5 ⟨a5,n5,c5,rfl,hf5⟩
   have d5:=(d4.trans c9).trans hf5.1
   obtain ⟨g6,w6,r6,c6',q6,qr6⟩:=P22 w5 _ _ _ hf5.rdB
   refine ⟨_,_,_,rfl,_,_,_,_,r6,(Pm w6 g6 _ (d5.trans c6') q6 qr6).mono ?_⟩
   rintro e w10 ⟨rfl,c10⟩
   exact ⟨_,rfl,fin g9 w10 (h9.same (hf5.1.trans (c6'.trans c10)))⟩
 · obtain ⟨g9,w9,r9,h9,c9⟩:=(h1.same d3).zeroAC d32Z
   obtain ⟨g4,w4,r4,c4',q4,qr4⟩:=P20 w9 g3 (d3.trans c9) (q3.keep0 c9)
   refine ⟨g9,w9,r9,_,_,_,_,r4,(Ppk w4 g4 _ q4 qr4).mono ?_⟩
   rintro e w5 ⟨a5,n5,c5,rfl,hf5⟩
   have d5:=((d3.trans c9).trans c4').trans hf5.1
   obtain ⟨g6,w6,r6,c6',q6,qr6⟩:=P22 w5 _ _ _ hf5.rdB
   refine ⟨_,_,_,rfl,_,_,_,_,r6,(Pm w6 g6 _ (d5.trans c6') q6 qr6).mono ?_⟩
   rintro e w10 ⟨rfl,c10⟩
   exact ⟨_,rfl,fin g9 w10 (h9.same ((c4'.trans hf5.1).trans (c6'.trans c10)))⟩
 · obtain ⟨g9,w9,r9,h9,c9⟩:=(h1.same hd).zeroAC d32Z
   obtain ⟨g3,w3,r3,c3',q3⟩:=litK k w9
   have d3:=(hd.trans c9).trans c3'
   obtain ⟨g4,w4,r4,c4',q4,qr4⟩:=P20 w3 g3 d3 q3
   refine ⟨g9,w9,r9,_,_,_,_,r3,_,_,_,_,r4,(Ppk w4 g4 _ q4 qr4).mono ?_⟩
   rintro e w5 ⟨a5,n5,c5,rfl,hf5⟩
   have d5:=(d3.trans c4').trans hf5.1
   obtain ⟨g6,w6,r6,c6',q6,qr6⟩:=P22 w5 _ _ _ hf5.rdB
   refine ⟨_,_,_,rfl,_,_,_,_,r6,(Pm w6 g6 _ (d5.trans c6') q6 qr6).mono ?_⟩
   rintro e w10 ⟨rfl,c10⟩
   exact ⟨_,rfl,fin g9 w10 (h9.same ((c3'.trans (c4'.trans hf5.1)).trans (c6'.trans c10)))⟩
 clear fin Pm P22 Ppk P20 q4 qr4 r4 r3 q3 c3' c4' d3 d4
 obtain ⟨nn,hnn⟩:∃n,d.take 12=n:=⟨_,rfl⟩
 have hnl:nn.length=12:=by rw [←hnn,List.length_take];omega
 rw [hnn] at hsf
 rintro g9 o w7 ⟨rfl,h7⟩
 obtain ⟨g10,w8,r8,h8⟩:=h7.zeroA d12Z
 obtain ⟨w9,r9,h9⟩:=h8.stA (i:=2) (v:=bv (mixG nn (List.replicate 12 0) 0)) rfl (d12S _) (by simp) (by rw [mixG_zero];simp) (bv_one _)
 rw [mixG_zero] at r9
 refine ⟨_,d12B _,g10,w8,r8,w9,r9,fun x w'=>∃i:Nat,x=(i:Int)∧i≤12∧St w [] w' [.arr g1 41 (bv K),.arr g9 39 (bv d),.arr g10 287 (bv (mixG nn (List.replicate 12 0) i))],fun x _=>12-x.toNat,⟨0,rfl,by omega,h9⟩,?_⟩
 rintro x w10 ⟨i,rfl,hi,h10⟩
 refine ⟨fun h=>?_,fun h=>?_⟩
 · have hi':i<12:=by simp at h;omega
   have hbi:nn[i]?=some (d.getD i 0):=by
     rw [←hnn,List.getElem?_take,if_pos hi',List.getD,List.getElem?_eq_getElem (by omega)]
     rfl
   have hml:(mixG nn (List.replicate 12 (0:UInt8)) i).length=12:=by simp [mixG];omega
   obtain ⟨w11,r11,h11⟩:=h10.stB (i:=2) (o:=i) (T:=5) (b:=d.getD i 0) rfl (sB1 _) (show 0+Int.toNat (i:Int)*1=i by omega) (by omega)
   rw [mixG_set (by rw [hnl,List.length_replicate]) hbi] at h11
   exact ⟨by omega,by omega,_,h10.ldB (i:=1) (o:=i) rfl (bA _) (show 0+Int.toNat (i:Int)*1=i by omega) (by omega),by omega,by omega,w11,r11,⟨i+1,wrap_succ hi' (by omega),by omega,h11⟩,mu_succ hi' (by omega)⟩
 have hi':i=12:=by simp at h;omega
 have f1:mixG nn (List.replicate 12 (0:UInt8)) i=nn:=by
   have:=mixG_all (x:=nn) (l:=List.replicate 12 (0:UInt8)) (by rw [hnl,List.length_replicate])
   rw [List.length_replicate] at this;rw [hi',this]
 rw [f1] at h10
 clear f1 hi' h hi h9 h8 r8 r9 h7
 have hov:=overF_len K nn plain
 refine ⟨_,h10.ldPre (T:=39) (i:=0) (l:=bv K) rfl (d32A _) (d32S _) (by simp [hk]),_,h10.ldA (i:=2) (l:=bv nn) rfl (d12A _) (d12S _) (by simp [hnl]),?_⟩
 rw [←bv_take]
 refine (rxor_spec (ciphK K) nn 0 a3 n3 c3 plain w10 (by simp [ciphK,hk]) hnl (by omega) (by omega) (h10.rd1 hr3) (by omega)).mono ?_
 rintro e w11 ⟨a11,n11,c11,rfl,hf11⟩
 have hbody:xorR (ciphK K) nn (Int.toNat 0) plain=overF K nn plain:=rfl
 obtain ⟨body,hbd⟩:∃b,overF K nn plain=b:=⟨_,rfl⟩
 have hf11':FreshB w10 w11 a11 n11 c11 body:=by rw [←hbd];exact hf11
 rw [hbd] at hsf hov
 have e11:=hf11'.2.1
 have h11:=(hf11'.add h10).drew
 have hz:=Chg.refl [] w11.drew
 have ld:∀w',Chg [] w11.drew w'→(Instr.loadAt 41 (.pointer (some ⟨g1,0,none⟩))).run Tryz.prog w'=.ok (.agg (bv K).toArray) w':=fun w' hc=>(h11.same hc).ldA (i:=0) (l:=bv K) rfl (kyA _) (kyS _) (by simp [hk])
 obtain ⟨tg,htg⟩:∃t,tagF K k ctx nn body=t:=⟨_,rfl⟩
 have htl:tg.length=32:=by rw [←htg];simp
 rw [htg] at hsf
 have Pt:∀w',Chg [] w11.drew w'→Calls Tryz.prog 202 #[.agg (bv K).toArray,.int .u8 (k.toNat:Int),.slice a2 n2 c2,.slice (some ⟨g10,0,none⟩) 12 12,.slice a11 n11 c11] w' fun e w''=>e=.returned (.agg (bv tg).toArray)∧Chg [] w' w'':=fun w' hc=>by
   have:=rtag_spec K k a2 n2 c2 ctx _ 12 12 nn a11 n11 c11 body w' hk ((h11.same hc).rd1 hr2) ((h11.same hc).rdA (i:=2) rfl (by simp [hnl])) ((h11.same hc).rd (i:=3) rfl) (by omega)
   rw [htg] at this
   exact this
 have fin:∀g w',St w [] w' [.arr g1 41 (bv K),.arr g9 39 (bv d),.arr g10 287 (bv nn),.row 5 1 (.slice a11 n11 c11) n11 (bv body),.arr g 39 (bv (List.replicate 32 0))]→∃w8,(Instr.storeAt 39 (.pointer (some ⟨g,0,none⟩)) (.agg (bv tg).toArray)).run Tryz.prog w'=.ok () w8∧(0=0∧St w [] w8 [.arr g1 41 (bv K),.arr g9 39 (bv d),.arr g10 287 (bv nn),.row 5 1 (.slice a11 n11 c11) n11 (bv body),.arr g 39 (bv tg)]):=fun g w' h=>by
   obtain ⟨w8,r8,h8⟩:=h.stA (i:=4) (v:=bv tg) rfl (d32S _) (by simp) (by simp [htl]) (bv_one _)
   exact ⟨w8,r8,rfl,h8⟩
 refine ⟨_,_,_,_,rfl,fun b o w'=>o=0∧St w [] w' [.arr g1 41 (bv K),.arr g9 39 (bv d),.arr g10 287 (bv nn),.row 5 1 (.slice a11 n11 c11) n11 (bv body),.arr b 39 (bv tg)],⟨fun w'=>Chg [] w11.drew w',hz,by omega,by omega,_,ld,(Pt _ hz).mono ?_,?_⟩,?_⟩
 · rintro e w12 ⟨rfl,c12⟩
   obtain ⟨g14,w13,r13,h13,c13⟩:=(h11.same c12).zeroAC d32Z
   exact ⟨_,rfl,fun w'=>Chg [] w11.drew w',fun _ h=>h,c12,g14,w13,r13,fun w'=>Chg [] w11.drew w',fun _ h=>h,c12.trans c13,fin g14 w13 h13⟩
 · obtain ⟨g14,w13,r13,h13,c13⟩:=h11.zeroAC d32Z
   refine ⟨g14,w13,r13,fun w'=>Chg [] w11.drew w',fun _ h=>h,c13,(Pt _ c13).mono ?_⟩
   rintro e w12 ⟨rfl,c12⟩
   exact ⟨_,rfl,fun w'=>Chg [] w11.drew w',fun _ h=>h,c13.trans c12,fin g14 w12 (h13.same c12)⟩
 rintro g14 o w12 ⟨rfl,h12⟩
 obtain ⟨g15,w13,r13,h13⟩:=h12.lit bT [.int .u8 (k.toNat:Int)] (by simp [Value.oneCell']) (by simp)
 have h13':St w [] w13 [.arr g1 41 (bv K),.arr g9 39 (bv d),.arr g10 287 (bv nn),.row 5 1 (.slice a11 n11 c11) n11 (bv body),.arr g14 39 (bv tg),.row 5 1 (.slice (some ⟨g15,0,none⟩) 1 1) 1 (bv [k])]:=h13
 obtain ⟨vb,vd,w16,r16,h16⟩:=h13'.appendB (i:=5) (m:=12) (l:=nn) rfl (h13'.rdA (i:=2) rfl (by simp [hnl])) (by omega)
 have h16':St w [] w16 [.arr g1 41 (bv K),.arr g9 39 (bv d),.arr g10 287 (bv nn),.row 5 1 (.slice a11 n11 c11) n11 (bv body),.arr g14 39 (bv tg),.row 5 1 (.slice vb (1+12) vd) (1+12) (bv ([k]++nn))]:=h16
 obtain ⟨ve,vf,w17,r17,h17⟩:=h16'.appendB (i:=5) rfl (h16'.rd (i:=3) (xs:=bv body) rfl) (by omega)
 have h17':St w [] w17 [.arr g1 41 (bv K),.arr g9 39 (bv d),.arr g10 287 (bv nn),.row 5 1 (.slice a11 n11 c11) n11 (bv body),.arr g14 39 (bv tg),.row 5 1 (.slice ve (1+12+n11) vf) (1+12+n11) (bv ([k]++nn++body))]:=h17
 obtain ⟨vg,vh,w18,r18,h18⟩:=h17'.appendB (i:=5) (m:=32) (l:=tg) rfl (h17'.rdA (i:=4) rfl (by simp [htl])) (by omega)
 refine ⟨_,_,_,_,r13,by omega,by omega,_,_,_,_,r16,_,_,_,_,r17,by omega,by omega,_,_,_,_,r18,_,_,_,rfl,?_⟩
 rw [hsf]
 exact h18.freshB (i:=5) rfl

end Go.Proofs.YtpmhjnhgpplmnaaGreatDoor
end

section
namespace Go.Proofs.YtpmhjnhgpplmnaaGreatDoor
open Go Sx
set_option maxRecDepth 8000

section
variable {w0 w w':World} {M:List Res} {l:List UInt8}
def VR (w0 w:World) (M:List Res) (a:Option Addr) (n c:Nat) (l:List UInt8):Prop:=l.length=n∧St w0 [] w (M++ [.row 5 1 (.slice a n c) n (bv l)])
theorem VR.same {a:Option Addr} {n c:Nat} (h:VR w0 w M a n c l) (hc:Chg [] w w'):VR w0 w' M a n c l:=⟨h.1,h.2.same hc⟩
theorem VR.rest {a:Option Addr} {n c:Nat} (h:VR w0 w M a n c l):St w0 [] w M:=h.2.sub (List.sublist_append_left _ _)
theorem VR.sub {N:List Res} {a:Option Addr} {n c:Nat} (h:VR w0 w M a n c l) (hs:N.Sublist M):VR w0 w N a n c l:=⟨h.1,h.2.sub (hs.append_right _)⟩
theorem VR.add {a:Option Addr} {n c:Nat} {r:Res} (hn:l.length=n) (h:St w0 [] w ((M++ [.row 5 1 (.slice a n c) n (bv l)])++ [r])):VR w0 w (M++ [r]) a n c l:=by
 refine ⟨hn,h.perm ?_⟩
 rw [List.append_assoc,List.append_assoc]
 exact List.Perm.append_left M (List.perm_append_comm (l₁:=[_]) (l₂:=[r]))
theorem VR.app {a b:Option Addr} {n c k d:Nat} {x:List UInt8} (h:VR w0 w M a n c l) (hr:RdB w b k d x) (hb:n+k≤140737488355000):
   ∃a' c' w',(Builtin.append_ #[26,26] 26 #[.slice a n c,.slice b k d]).run Tryz.prog w=.ok (.slice a' (n+k) c') w'∧VR w0 w' M a' (n+k) c' (l++x):=by
 obtain ⟨va,vc,w1,r1,h1⟩:=h.2.appendB (i:=M.length) List.getElem?_concat_length hr hb
 rw [List.set_append_right _ _ (Nat.le_refl _),Nat.sub_self] at h1
 exact ⟨va,vc,w1,r1,by rw [List.length_append,h.1,hr.lenB],h1⟩
theorem VR.vars {a:Option Addr} {n c:Nat} (h:VR w0 w M a n c l) (zs:List Int) (hn:zs.length≤1000) (hz:∀z∈zs,z≤9223372036854775807) (hb:n≤1000000000):∃gl w1,(Instr.buildSlice 29 (iv zs).length (((iv zs).zipIdx 0).map fun p=>(p.2,p.1)).toArray).run Tryz.prog w=.ok (.slice (some ⟨gl,0,none⟩) (iv zs).length (iv zs).length) w1∧Chg [] w w1∧
   Calls Tryz.prog 204 #[.slice a n c,.slice (some ⟨gl,0,none⟩) (iv zs).length (iv zs).length] w1 fun e w'=>∃a' n' c',e=.returned (.slice a' n' c')∧VR w0 w' M a' n' c' (l++varsZ zs):=by
 obtain ⟨gl,w1,r1,k1⟩:=(St.start w).lit intT (iv zs) (iv_one zs) (by simp;omega)
 have h1:=Sx.St.callPart (N:=[]) (by rw [List.append_nil];exact h.2) k1
 have v1:=VR.add h.1 h1
 refine ⟨gl,w1,r1,k1.chg,(rvars16_spec zs hz _ _ _ a n c l v1.2 (fun w' h=>h.rd (i:=M.length) List.getElem?_concat_length) (by omega)).mono ?_⟩
 rintro e w2 ⟨a',c',rfl,h2⟩
 exact ⟨a',_,c',rfl,VR.sub (M:=M++ [_]) ⟨by rw [List.length_append,h.1],h2⟩ (List.sublist_append_left _ _)⟩
theorem rnumZ (z:Int) (w:World):Calls Tryz.prog 203 #[.int .i64 z] w fun e w'=>∃a n c,e=.returned (.slice a n c)∧FreshB w w' a n c (numZ z):=rnum_bytes z w
end

set_option maxHeartbeats 4000000 in
theorem rPlain16_spec (C:CatD) (sa:Option Addr) (sn sc:Nat) (pa:Option Addr) (pn pc:Nat) (w:World) (h:CatR w C sa sn sc pa pn pc) (ok:CatOk C):
   Calls Tryz.prog 104 #[.agg (catC C sa sn sc pa pn pc).toArray] w fun e w'=>∃a n c,e=.returned (.slice a n c)∧FreshB w w' a n c (plainB C):=by
 have hsn:=h.snaps.num (by decide)
 have hpn:=h.packs.num (by decide)
 have hsn64:sn≤64:=by have:=ok.sn;omega
 have hpn1k:pn≤1024:=by have:=ok.pn;omega
 apply amphoraref16_Plain_vc
 obtain ⟨g1,w1,r1,k1⟩:=(St.start w).boxA (P:=Tryz.prog) 47 (catC C sa sn sc pa pn pc)
 obtain ⟨M,hM⟩:∃M:List Res,[]++ [.arr g1 47 (catC C sa sn sc pa pn pc)]=M:=⟨_,rfl⟩
 rw [hM] at k1
 have ldC:∀ {w'} {R:List Res} (j:Nat) (T:TypeId) (v:Value),(isAgg T).run Tryz.prog w'=.ok false w'→(catC C sa sn sc pa pn pc)[j]?=some v→St w [] w' (M++R)→(Instr.loadAt T (.pointer (some ⟨g1,j,none⟩))).run Tryz.prog w'=.ok v w':=fun j T v hT hv h=>h.ldL (i:=0) (o:=j) (by rw [←hM];rfl) hT rfl hv
 have ldC':∀ {w'} (j:Nat) (T:TypeId) (v:Value),(isAgg T).run Tryz.prog w'=.ok false w'→(catC C sa sn sc pa pn pc)[j]?=some v→St w [] w' M→(Instr.loadAt T (.pointer (some ⟨g1,j,none⟩))).run Tryz.prog w'=.ok v w':=fun j T v hT hv h=>ldC (R:=[]) j T v hT hv (by rw [List.append_nil];exact h)
 have uA:∀w,(isAgg 42).run Tryz.prog w=.ok false w:=fun w=>Tryz.isAgg42 w
 refine ⟨g1,w1,r1,_,ldC' 0 _ _ (intA _) rfl k1,(rnumZ C.gen w1).mono ?_⟩
 rintro e w2 ⟨a2,n2,c2,rfl,f2⟩
 have v2:VR w w2 M a2 n2 c2 (numZ C.gen):=⟨f2.rdB.lenB,f2.add k1⟩
 refine ⟨_,_,_,rfl,_,ldC 1 _ _ (intA _) rfl v2.2,(rnumZ C.next w2).mono ?_⟩
 rintro e w3 ⟨a3,n3,c3,rfl,f3⟩
 have l2:n2=8:=by rw [←v2.1,numZ_len]
 have l3:n3=8:=by rw [←f3.rdB.lenB,numZ_len]
 obtain ⟨a4,c4,w4,r4,v4⟩:=(v2.same f3.1).app f3.rdB (by omega)
 refine ⟨_,_,_,rfl,_,_,_,w4,r4,_,ldC 2 _ _ (uA _) rfl v4.2,(rnumZ (polyZ C.set) w4).mono ?_⟩
 rintro e w5 ⟨a5,n5,c5,rfl,f5⟩
 have l5:n5=8:=by rw [←f5.rdB.lenB,numZ_len]
 obtain ⟨a6,c6,w6,r6,v6⟩:=(v4.same f5.1).app f5.rdB (by omega)
 have hz5:∀z∈ [C.set.win,C.set.min,C.set.max,C.set.bits,(sn:Int)],z≤9223372036854775807:=fun z hz=>by
   simp only [List.mem_cons,List.not_mem_nil,or_false] at hz
   rcases hz with rfl | rfl | rfl | rfl | rfl
   · exact ok.set.1.2
   · exact ok.set.2.1.2
   · exact ok.set.2.2.1.2
   · exact ok.set.2.2.2.2
   · omega
 have n5':=varsZ_len hz5
 simp only [List.length_cons,List.length_nil] at n5'
 obtain ⟨gl,w7,r7,_,q7⟩:=v6.vars [C.set.win,C.set.min,C.set.max,C.set.bits,(sn:Int)] (by simp) hz5 (by omega)
 refine ⟨_,_,_,rfl,_,_,_,w6,r6,_,ldC 3 _ _ (intA _) rfl v6.2,_,ldC 4 _ _ (intA _) rfl v6.2,_,ldC 5 _ _ (intA _) rfl v6.2,_,ldC 6 _ _ (intA _) rfl v6.2,_,_,_,ldC 7 _ _ (ssA _) rfl v6.2,_,_,_,w7,r7,q7.mono ?_⟩
 rintro e w8 ⟨a8,n8,c8,rfl,v8⟩
 obtain ⟨H,hH⟩:∃H,numZ C.gen++numZ C.next++numZ (polyZ C.set)++varsZ [C.set.win,C.set.min,C.set.max,C.set.bits,(sn:Int)]=H:=⟨_,rfl⟩
 rw [hH] at v8
 have hHl:H.length≤100:=by rw [←hH];simp only [List.length_append,numZ_len];omega
 refine ⟨_,_,_,rfl,fun xa xn xc x w'=>∃i:Nat,x=(i:Int)∧i≤sn∧VR w w' M xa xn xc (H++(C.snaps.take i).flatMap snapB),fun _ _ _ x _=>sn-x.toNat,⟨0,rfl,by omega,by simpa using v8⟩,?_⟩
 rintro xa xn xc x w9 ⟨i,rfl,hi,v9⟩
 refine ⟨_,_,_,ldC 7 _ _ (ssA _) rfl v9.2,fun hlt=>?_,fun hge=>?_⟩
 · have hi':i<sn:=by simp at hlt;omega
   obtain ⟨s,hs⟩:∃s,C.snaps[i]?=some s:=⟨_,List.getElem?_eq_getElem (by omega)⟩
   have hsok:=ok.snaps s (List.mem_of_getElem? hs)
   obtain ⟨b,o,ha,q⟩:=h.snaps.ld (P:=Tryz.prog) (by decide) snA snS hs
   obtain ⟨P,hP⟩:∃P,H++(C.snaps.take i).flatMap snapB=P:=⟨_,rfl⟩
   have hPl:P.length≤10000:=by
     have:=flat_le (f:=snapB) (l:=C.snaps.take i) (k:=100) fun s hs=>snapB_len (ok.snaps s (List.mem_of_mem_take hs))
     rw [List.length_take,Nat.min_eq_left (by omega)] at this
     rw [←hP,List.length_append];omega
   rw [hP] at v9
   have hxn:=v9.1
   obtain ⟨g5,w10,r10,h10⟩:=(St.start w9).zeroA snZ
   obtain ⟨w11,r11,h11⟩:=h10.stA (i:=0) (v:=snapC s) rfl (snS _) (by simp) (snapC_len s) (snapC_one s)
   have h11:St w9 [] w11 [.arr g5 89 (snapC s)]:=h11
   have v11:=VR.add v9.1 (Sx.St.callPart (N:=[]) (by rw [List.append_nil];exact v9.2) h11)
   have e5:∀ {R:List Res},((M++ [.arr g5 89 (snapC s)])++R)[M.length]?=some (.arr g5 89 (snapC s)):=fun {R} =>by rw [List.append_assoc,List.getElem?_append_right (Nat.le_refl _),Nat.sub_self];rfl
   obtain ⟨gn,cn,w12,r12,c12,q12,_⟩:=toBytes ⟨s.name.toArray⟩ s.name rfl w11
   obtain ⟨gp,w13,r13,c13,q13,_⟩:=litC bbT [.slice (some ⟨gn,0,none⟩) s.name.length cn] (by simp [Value.oneCell']) (by simp) w12
   refine ⟨_,_,_,ldC 7 _ _ (ssA _) rfl v9.2,b,o,ha,by omega,by omega,_,by rw [Int.toNat_natCast];exact q w9 (h.snaps.keep0 v9.2.chg),g5,w10,r10,w11,r11,_,v11.2.ldL (i:=M.length) (o:=0) e5 (snStr _) rfl rfl,_,_,_,w12,r12,_,_,_,w13,r13,(rpack_spec _ 1 1 _ [s.name] w13 q13 (row2_one (q12.keep0 c13)) (by simp;omega) (by simp)).mono ?_⟩
   rintro e w14 ⟨pa',pn',pc',rfl,f14⟩
   have l14:pn'≤40:=by have:=f14.rdB.lenB;rw [pack1,varL_small (by omega)] at this;simp at this;omega
   obtain ⟨a15,c15,w15,r15,v15⟩:=(v11.same ((c12.trans c13).trans f14.1)).app f14.rdB (by omega)
   refine ⟨_,_,_,rfl,_,_,_,w15,r15,_,v15.2.ldL (i:=M.length) (o:=1) e5 (intA _) rfl rfl,(rnumZ s.time w15).mono ?_⟩
   rintro e w16 ⟨a16,n16,c16,rfl,f16⟩
   have l16:n16=8:=by rw [←f16.rdB.lenB,numZ_len]
   obtain ⟨a17,c17,w17,r17,v17⟩:=(v15.same f16.1).app f16.rdB (by omega)
   have hz2:∀z∈ [s.size,s.chunks],z≤9223372036854775807:=fun z hz=>by
     simp only [List.mem_cons,List.not_mem_nil,or_false] at hz
     rcases hz with rfl | rfl
     · exact hsok.2.2.1.2
     · exact hsok.2.2.2.2
   have l3:=varsZ_len hz2
   simp only [List.length_cons,List.length_nil] at l3
   obtain ⟨gl,w18,r18,_,q18⟩:=v17.vars [s.size,s.chunks] (by simp) hz2 (by omega)
   refine ⟨_,_,_,rfl,_,_,_,w17,r17,_,v17.2.ldL (i:=M.length) (o:=2) e5 (intA _) rfl rfl,_,v17.2.ldL (i:=M.length) (o:=3) e5 (intA _) rfl rfl,_,_,_,w18,r18,q18.mono ?_⟩
   rintro e w19 ⟨a19,n19,c19,rfl,v19⟩
   have l19:=v19.1
   have lP:(packL [s.name]).length≤40:=by rw [pack1,varL_small (by omega)];simp;omega
   have l19':n19≤11000:=by rw [←l19];simp only [List.length_append,numZ_len];omega
   have rdY:RdB w19 (some ⟨g5,4,none⟩) 32 32 s.root:=v19.2.rdSub (i:=M.length) (o:=4) (n:=32) e5 (by show List.take 32 (bv s.root)=_;rw [List.take_of_length_le (by simp [s.rl])]) s.rl
   obtain ⟨a20,c20,w20,r20,v20⟩:=v19.app rdY (by omega)
   refine ⟨_,_,_,rfl,by omega,by omega,a20,_,c20,w20,r20,⟨i+1,wrap_succ hi' (by omega),by omega,?_⟩,mu_succ hi' (by omega)⟩
   have e:H++(C.snaps.take (i+1)).flatMap snapB=P++packL [s.name]++numZ s.time++varsZ [s.size,s.chunks]++s.root:=by
     rw [←hP,List.take_add_one,hs,List.flatMap_append]
     simp [snapB,pack1,List.append_assoc]
   rw [e]
   exact v20.sub (List.sublist_append_left _ _)
 · have hi':i=sn:=by simp at hge;omega
   rw [hi',←hsn,List.take_length] at v9
   obtain ⟨P,hP⟩:∃P,H++C.snaps.flatMap snapB=P:=⟨_,rfl⟩
   have hPl:P.length≤10000:=by
     have:=flat_le (f:=snapB) (l:=C.snaps) (k:=100) fun s hs=>snapB_len (ok.snaps s hs)
     rw [←hP,List.length_append];omega
   rw [hP] at v9
   have hxn:=v9.1
   have hz1:∀z∈ [(pn:Int)],z≤9223372036854775807:=fun z hz=>by
     simp only [List.mem_cons,List.not_mem_nil,or_false] at hz
     omega
   have l1:=varsZ_len hz1
   simp only [List.length_cons,List.length_nil] at l1
   obtain ⟨gl,w21,r21,_,q21⟩:=v9.vars [(pn:Int)] (by simp) hz1 (by omega)
   refine ⟨_,_,_,ldC 8 _ _ (psA _) rfl v9.2,_,_,_,w21,r21,q21.mono ?_⟩
   rintro e w22 ⟨a22,n22,c22,rfl,v22⟩
   obtain ⟨Q,hQ⟩:∃Q,P++varsZ [(pn:Int)]=Q:=⟨_,rfl⟩
   have hQl:Q.length≤10010:=by rw [←hQ,List.length_append];omega
   rw [hQ] at v22
   refine ⟨_,_,_,rfl,fun xa xn xc x w'=>∃i:Nat,x=(i:Int)∧i≤pn∧VR w w' M xa xn xc (Q++(C.packs.take i).flatMap pkB),fun _ _ _ x _=>pn-x.toNat,⟨0,rfl,by omega,by simpa using v22⟩,?_⟩
   rintro xa xn xc x w23 ⟨i,rfl,hi,v23⟩
   refine ⟨_,_,_,ldC 8 _ _ (psA _) rfl v23.2,fun hlt=>?_,fun hge=>?_⟩
   · have hi':i<pn:=by simp at hlt;omega
     obtain ⟨p,hp⟩:∃p,C.packs[i]?=some p:=⟨_,List.getElem?_eq_getElem (by omega)⟩
     have hpok:=ok.packs p (List.mem_of_getElem? hp)
     have hTl:(Q++(C.packs.take i).flatMap pkB).length≤40000:=by
       have:=flat_le (f:=pkB) (l:=C.packs.take i) (k:=27) fun p hp=>pkB_len (ok.packs p (List.mem_of_mem_take hp))
       rw [List.length_take,Nat.min_eq_left (by omega)] at this
       rw [List.length_append];omega
     have v24:=v23.same (Chg.drew [] w23)
     have hxn:=v23.1
     have hz3:∀z∈ [p.num,p.size,p.count],z≤9223372036854775807:=fun z hz=>by
       simp only [List.mem_cons,List.not_mem_nil,or_false] at hz
       rcases hz with rfl | rfl | rfl
       · exact hpok.1.2
       · exact hpok.2.1.2
       · exact hpok.2.2.2
     obtain ⟨gl,w24,r24,c24,q24⟩:=v24.vars [p.num,p.size,p.count] (by simp) hz3 (by omega)
     let S:World→Prop:=fun w'=>St w [] w' M
     obtain ⟨b0,o0,h0,f0⟩:=h.packs.fld (P:=Tryz.prog) (by decide) intA hp (j:=0) rfl
     obtain ⟨b1,o1,h1,f1⟩:=h.packs.fld (P:=Tryz.prog) (by decide) intA hp (j:=1) rfl
     obtain ⟨b2,o2,h2,f2⟩:=h.packs.fld (P:=Tryz.prog) (by decide) intA hp (j:=2) rfl
     refine ⟨S,v24.rest,_,_,_,fun v hv=>ldC' 8 _ _ (psA _) rfl hv,b0,o0,h0,by omega,by omega,_,fun v hv=>f0 v (h.packs.keep0 (Sx.St.chg hv)),_,_,_,fun v hv=>ldC' 8 _ _ (psA _) rfl hv,b1,o1,h1,by omega,by omega,_,fun v hv=>f1 v (h.packs.keep0 (Sx.St.chg hv)),_,_,_,fun v hv=>ldC' 8 _ _ (psA _) rfl hv,b2,o2,h2,by omega,by omega,_,fun v hv=>f2 v (h.packs.keep0 (Sx.St.chg hv)),_,_,_,w24,r24,S,fun _ h=>h,Sx.St.same v24.rest c24,q24.mono ?_⟩
     rintro e w25 ⟨a25,n25,c25,rfl,v25⟩
     refine ⟨_,_,_,rfl,S,fun _ h=>h,v25.rest,⟨i+1,wrap_succ hi' (by omega),by omega,?_⟩,mu_succ hi' (by omega)⟩
     have e:Q++(C.packs.take (i+1)).flatMap pkB=Q++(C.packs.take i).flatMap pkB++varsZ [p.num,p.size,p.count]:=by
       rw [List.take_add_one,hp,List.flatMap_append]
       simp [pkB,List.append_assoc]
     rw [e]
     exact v25
   · have hi':i=pn:=by simp at hge;omega
     rw [hi',←hpn,List.take_length] at v23
     have hall:Q++C.packs.flatMap pkB=plainB C:=by
       rw [←hQ,←hP,←hH,plainB,hsn,hpn]
       simp [numsZ,List.append_assoc]
     rw [hall] at v23
     refine ⟨xa,xn,xc,rfl,v23.2.chg,v23.1,?_⟩
     exact v23.2.freshRow (i:=M.length) List.getElem?_concat_length

end Go.Proofs.YtpmhjnhgpplmnaaGreatDoor
end

section
namespace Go.Proofs.YtpmhjnhgpplmnaaGreatDoor
open Go Sx
set_option maxRecDepth 8000

set_option maxHeartbeats 1000000 in
theorem rEncode16_spec (K:List UInt8) (hk:K.length=96) (C:CatD) (sa:Option Addr) (sn sc:Nat) (pa:Option Addr) (pn pc:Nat) (w:World) (h:CatR w C sa sn sc pa pn pc) (ok:checkB C=true→CatOk C):
   Calls Tryz.prog 36 #[.agg (bv K).toArray,.agg (catC C sa sn sc pa pn pc).toArray] w fun e w'=>∃a n c,e=.returned (.tuple #[.slice a n c,.int .i64 (if checkB C then 0 else 28)])∧FreshB w w' a n c (if checkB C then encC K C else []):=by
 apply amphoraref16_Encode_vc
 obtain ⟨g2,w1,r1,k1⟩:=(St.start w).boxA (P:=Tryz.prog) 41 (bv K)
 obtain ⟨g3,w2,r2,k2⟩:=k1.boxA (P:=Tryz.prog) 47 (catC C sa sn sc pa pn pc)
 obtain ⟨B,hB⟩:∃B:List Res,[]++ [.arr g2 41 (bv K)]++ [.arr g3 47 (catC C sa sn sc pa pn pc)]=B:=⟨_,rfl⟩
 have k2:St w [] w2 B:=by rw [←hB];exact k2
 have hBl:B.length=2:=by rw [←hB];rfl
 have ldK:∀ {w' R},St w [] w' (B++R)→(Instr.loadAt 41 (.pointer (some ⟨g2,0,none⟩))).run Tryz.prog w'=.ok (.agg (bv K).toArray) w':=fun h=>h.ldA (i:=0) (l:=bv K) (by rw [←hB];rfl) (kyA' _) (kyS' _) (by simp [hk])
 have ldC:∀ {w' R},St w [] w' (B++R)→(Instr.loadAt 47 (.pointer (some ⟨g3,0,none⟩))).run Tryz.prog w'=.ok (.agg (catC C sa sn sc pa pn pc).toArray) w':=fun h=>h.ldA (i:=1) (l:=catC C sa sn sc pa pn pc) (by rw [←hB];rfl) (caA16 _) (caS16 _) rfl
 have nil:∀ {w'},St w [] w' B→St w [] w' (B++ []):=fun h=>by rw [List.append_nil];exact h
 refine ⟨g2,w1,r1,g3,w2,r2,_,ldC (nil k2),(rcheck16_spec C sa sn sc pa pn pc w2 (h.keep0 k2.chg)).mono ?_⟩
 rintro e w3 ⟨rfl,c3⟩
 have k3:=k2.same c3
 cases hc:checkB C with
 | false=>exact ⟨_,rfl,fun _=>⟨none,0,0,rfl,k3.chg,rfl,World.ownsRow_nil _ _ _ _⟩,fun h=>by simp at h⟩
 | true=>
   have ok:=ok hc
   have hpl:=plain_len ok
   let S:World→Prop:=fun w'=>∃R,St w [] w' (B++R)
   have k3d:=k3.same (Chg.drew [] w3)
   have i2:∀ {r:Res} {R:List Res},(B++r::R)[2]?=some r:=fun {r R} =>by rw [List.getElem?_append_right (by omega),hBl];rfl
   have i3:∀ {r q:Res} {R:List Res},(B++r::q::R)[3]?=some q:=fun {r q R} =>by rw [List.getElem?_append_right (by omega),hBl];rfl
   have ctx:∀ {w' g o R},St w [] w' (B++ .blk g o::R)→(∀w'':World,w''.heap[g]?=some o→RdB w'' (some ⟨g,0,none⟩) 7 7 catK)→RdB w' (some ⟨g,0,none⟩) 7 7 catK:=fun {w' g o R} h q=>q w' (h.holds 2 (.blk g o) i2)
   have qP:∀w',Chg [] w w'→Calls Tryz.prog 104 #[.agg (catC C sa sn sc pa pn pc).toArray] w' fun e w''=>∃a n c,e=.returned (.slice a n c)∧FreshB w' w'' a n c (plainB C):=fun w' c=>rPlain16_spec C sa sn sc pa pn pc w' (h.keep0 c) ok
   have qS:∀ {w'} (g:Nat) (pa':Option Addr) (pn' pc':Nat),Chg [] w w'→RdB w' (some ⟨g,0,none⟩) 7 7 catK→RdB w' pa' pn' pc' (plainB C)→Calls Tryz.prog 103 #[.agg (bv K).toArray,.int .u8 4,.slice (some ⟨g,0,none⟩) 7 7,.slice pa' pn' pc'] w' fun e w''=>∃a n c,e=.returned (.slice a n c)∧FreshB w w'' a n c (encC K C)∧Chg [] w' w'':=fun {w'} g pa' pn' pc' c q1 q2=>by
     have hl:=q2.lenB
     refine (rseal_spec K 4 _ 7 7 catK pa' pn' pc' (plainB C) w' hk q1 q2 (by omega)).mono ?_
     rintro e w'' ⟨a,n,c',rfl,f⟩
     exact ⟨a,n,c',rfl,f.after c,f.1⟩
   let rl (g:Nat):Res:=.row 5 1 (.slice (some ⟨g,0,none⟩) 7 7) 7 (bv catK)
   have lit:∀ {w' R},St w [] w' (B++R)→∃g w'',(Instr.buildSlice 26 7 #[(0,.int .u8 99),(1,.int .u8 97),(2,.int .u8 116),(3,.int .u8 97),(4,.int .u8 108),(5,.int .u8 111),(6,.int .u8 103)]).run Tryz.prog w'=.ok (.slice (some ⟨g,0,none⟩) 7 7) w''∧St w [] w'' (B++rl g::R):=fun {w' R} h=>by
     obtain ⟨g,w'',r,k⟩:=h.lit bT (bv catK) (bv_one _) (by decide)
     refine ⟨g,w'',r,k.perm ?_⟩
     rw [List.append_assoc]
     exact (List.perm_append_comm (l₁:=R) (l₂:=[_])).append_left B
   have conv:∀ {w' g R},St w [] w' (B++rl g::R)→∃w'' o,(convert 26 26 (.slice (some ⟨g,0,none⟩) 7 7)).run Tryz.prog w'=.ok (.slice (some ⟨g,0,none⟩) 7 7) w''∧St w [] w'' (B++ .blk g o::R)∧(∀v:World,v.heap[g]?=some o→RdB v (some ⟨g,0,none⟩) 7 7 catK):=fun {w' g R} h=>by
     obtain ⟨w'',o,r,k,q⟩:=convHold h (i:=2) i2
     rw [List.set_append_right _ _ (by omega),hBl] at k
     exact ⟨w'',o,r,k,q⟩
   let rp (a:Option Addr) (n c:Nat):Res:=.row 5 1 (.slice a n c) n (bv (plainB C))
   obtain ⟨g,w4,r4,k4⟩:=lit (nil k3d)
   have fin:∀ {w':World} {a:Option Addr} {n c:Nat},FreshB w w' a n c (encC K C)→(∃(a':Option Addr) (n' c':Nat),Ending.returned (.tuple #[.slice a n c,.int .i64 0])=.returned (.tuple #[.slice a' n' c',.int .i64 0])∧FreshB w w' a' n' c' (encC K C)):=fun f=>⟨_,_,_,rfl,f⟩
   refine ⟨_,rfl,fun h=>by simp at h,fun _=>⟨S,⟨_,nil k3d⟩,_,fun v ⟨_,h⟩=>ldK h,_,fun v ⟨_,h⟩=>ldC h,⟨_,_,_,w4,r4,S,fun _ h=>h,⟨_,k4⟩,?_,?_⟩,?_⟩⟩
   · obtain ⟨w5,o,r5,k5,q5⟩:=conv k4
     refine ⟨_,_,_,w5,r5,S,fun _ h=>h,⟨_,k5⟩,(qP w5 k5.chg).mono ?_⟩
     rintro e w6 ⟨a,n,c,rfl,f6⟩
     have k6:=k5.same f6.1
     refine ⟨_,_,_,rfl,S,fun _ h=>h,⟨_,k6⟩,(qS g a n c k6.chg (ctx k6 q5) f6.rdB).mono ?_⟩
     rintro e w7 ⟨a7,n7,c7,rfl,f7,c7'⟩
     exact ⟨_,_,_,rfl,S,fun _ h=>h,⟨_,k6.same c7'⟩,fin f7⟩
   · refine (qP w4 k4.chg).mono ?_
     rintro e w6 ⟨a,n,c,rfl,f6⟩
     have k6:St w [] w6 (B++rl g:: [rp a n c]):=by have:=f6.add k4;rw [List.append_assoc] at this;exact this
     obtain ⟨w5,o,r5,k5,q5⟩:=conv k6
     refine ⟨_,_,_,rfl,S,fun _ h=>h,⟨_,k6⟩,_,_,_,w5,r5,S,fun _ h=>h,⟨_,k5⟩,(qS g a n c k5.chg (ctx k5 q5) (k5.rd (i:=3) i3)).mono ?_⟩
     rintro e w7 ⟨a7,n7,c7,rfl,f7,c7'⟩
     exact ⟨_,_,_,rfl,S,fun _ h=>h,⟨_,k5.same c7'⟩,fin f7⟩
   · refine (qP w3.drew k3d.chg).mono ?_
     rintro e w6 ⟨a,n,c,rfl,f6⟩
     have k6:St w [] w6 (B++ [rp a n c]):=f6.add k3d
     obtain ⟨g',w8,r8,k8⟩:=lit k6
     obtain ⟨w5,o,r5,k5,q5⟩:=conv k8
     refine ⟨_,_,_,rfl,S,fun _ h=>h,⟨_,k6⟩,_,_,_,w8,r8,S,fun _ h=>h,⟨_,k8⟩,_,_,_,w5,r5,S,fun _ h=>h,⟨_,k5⟩,(qS g' a n c k5.chg (ctx k5 q5) (k5.rd (i:=3) i3)).mono ?_⟩
     rintro e w7 ⟨a7,n7,c7,rfl,f7,c7'⟩
     exact ⟨_,_,_,rfl,S,fun _ h=>h,⟨_,k5.same c7'⟩,fin f7⟩

end Go.Proofs.YtpmhjnhgpplmnaaGreatDoor
end

section
namespace Go.Proofs.YtpmhjnhgpplmnaaGreatDoor
open Go Sx
set_option maxRecDepth 8000

theorem Sx.St.stRowQ {P:Program} {w0 w:World} {X:List Nat} {M:List Res} (h:St w0 X w M) {i b o n c q k:Nat} {e T:TypeId} {xs:List Value} {v:Value} (hi:M[i]?=some (.row e k (.slice (some ⟨b,o,none⟩) n c) n xs)) (hT:(sizeOf T).run P w=.ok 1 w) (hq:q<n*k) (hv:v.oneCell'=true):
   ∃w',(Instr.storeAt T (.pointer (some ⟨b,o+q,none⟩)) v).run P w=.ok () w'∧St w0 X w' (M.set i (.row e k (.slice (some ⟨b,o,none⟩) n c) n (xs.set q v))):=by
 have hown:w.ownsRow 0 e k (.slice (some ⟨b,o,none⟩) n c) n xs:=h.holds i _ hi
 obtain ⟨hlen,hrow⟩:=hown
 rcases hrow with ⟨hv0,_⟩ | ⟨g,cap,cur,hv0,hb,hg,hnc,hcm,hcs,ht⟩
 · simp at hv0
 · simp only [Value.slice.injEq,Option.some.injEq,Addr.mk.injEq,and_true,true_and] at hv0
   obtain ⟨⟨rfl,rfl⟩,rfl⟩:=hv0
   have hck:n*k≤c*k:=Nat.mul_le_mul_right k hnc
   have hcs':v.cells= #[v]:=by cases v<;>first | rfl | (simp [Value.oneCell'] at hv)
   have hst:=run_storeCells_at P b q e [v] 0 cur w hg (by simp;omega) (by simpa using hv)
   have hset:(cur.toList.take q++ [v]++cur.toList.drop (q+1)).toArray=cur.setIfInBounds q v:=by
     apply Array.ext'
     rw [Array.toList_setIfInBounds,List.set_eq_take_append_cons_drop]
     simp [show q<cur.size by omega]
   simp only [Nat.add_zero,List.length_singleton] at hst
   rw [hset] at hst
   refine ⟨_,?_,h.upd hi (w':=w.setRow b (cur.setIfInBounds q v)) ⟨rfl,rfl,rfl,by simp,fun k _ hk=>setRow_other w b k _ (fun e=>hk (by simp [Res.fp,Value.ownBlock,e]))⟩ ?_ (by simp [Res.fp,Value.ownBlock])⟩
   · rw [Nat.zero_add]
     simp [Instr.storeAt,Instr.sureAddr,storeVar,hT,hcs',hst]
   · refine ⟨by simpa using hlen,.inr ⟨b,c,_,rfl,hb,setRow_heap w b cur _ e _ hg,hnc,hcm,by simpa using hcs,?_⟩⟩
     rw [Array.toList_setIfInBounds,←ht,List.take_set]
theorem Sx.St.rowAt {w0 w:World} {X:List Nat} {M:List Res} (h:St w0 X w M) {i n c k:Nat} {e:TypeId} {a:Option Addr} {xs:List Value} (hi:M[i]?=some (.row e k (.slice a n c) n xs)) (hn:0<n):∃b,a=some ⟨b,0,none⟩:=by
 have hown:w.ownsRow 0 e k (.slice a n c) n xs:=h.holds i _ hi
 rcases hown.2 with ⟨hv0,h0⟩ | ⟨g,cap,cur,hv0,_⟩
 · omega
 · simp only [Value.slice.injEq] at hv0
   exact ⟨g,hv0.1⟩

theorem pks_mem {next:Int} :∀ {l:List PkD} {last:Int},pksB next last l=true→∀p∈l,last<p.num∧p.num<next∧0≤p.size∧0≤p.count
 | [],_,_,p,hp=>by cases hp
 | q::l,last,h,p,hp=>by
   simp only [pksB,Bool.and_eq_true,decide_eq_true_eq] at h
   rcases List.mem_cons.1 hp with rfl | hp
   · exact ⟨h.1.1,h.1.2.1,h.1.2.2.1,h.1.2.2.2⟩
   · have:=pks_mem h.2 p hp
     exact ⟨by omega,this.2⟩
structure CatI (C:CatD):Prop where
 poly:C.set.poly<18446744073709551616
 snaps:∀s∈C.snaps,s.size≤9223372036854775807
 packs:∀p∈C.packs,p.size≤9223372036854775807∧p.count≤9223372036854775807
theorem catOk_of {C:CatD} (h:checkB C=true) (hi:CatI C):CatOk C:=by
 simp only [checkB,headB,Bool.and_eq_true,decide_eq_true_eq,List.all_eq_true] at h
 obtain ⟨⟨⟨g1,g2,n1,n2⟩,hs,l1,l2⟩,hsn,_,hpk⟩:=h
 refine ⟨⟨by omega,by omega⟩,⟨by omega,by omega⟩,hi.poly,setB_ok hs,l1,l2,fun s hm=>?_,fun p hm=>?_⟩
 · have h1:=goodSnap_iff.1 (hsn s hm)
   have h2:=hi.snaps s hm
   exact ⟨name_len32 h1.1,⟨by omega,by omega⟩,⟨h1.2.2.1,h2⟩,⟨h1.2.2.2.1,by omega⟩⟩
 · have h1:=pks_mem hpk p hm
   have h2:=hi.packs p hm
   exact ⟨⟨by omega,by omega⟩,⟨h1.2.2.1,h2.1⟩,⟨h1.2.2.2,h2.2⟩⟩

def largeC (C:CatD):Bool:=decide (100<C.snaps.length)||(decide (1100<C.packs.length)||C.snaps.any fun s=>decide (100<s.name.length))
theorem large16_spec (C:CatD) (sa:Option Addr) (sn sc:Nat) (pa:Option Addr) (pn pc:Nat) (w:World) (hS:RdS w sa sn sc C.snaps) (hP:RdE pkC 3 w pa pn pc C.packs):
   Calls Tryz.prog 32 #[.agg (catC C sa sn sc pa pn pc).toArray] w fun e w'=>e=.returned (.bool (largeC C))∧Chg [] w w':=by
 have hsn:=hS.num (by decide)
 have hpn:=hP.num (by decide)
 apply amphoralaw16_large_vc
 obtain ⟨g1,w1,r1,k1⟩:=(St.start w).boxA (P:=Tryz.prog) 47 (catC C sa sn sc pa pn pc)
 have k1:St w [] w1 [.arr g1 47 (catC C sa sn sc pa pn pc)]:=k1
 have e0:largeC C=(decide (100<sn)||(decide (1100<pn)||C.snaps.any fun s=>decide (100<s.name.length))):=by unfold largeC;rw [hsn,hpn]
 refine ⟨g1,w1,r1,fun t w'=>t=(decide (100<sn)||decide (1100<pn))∧w'=w1,⟨_,_,_,k1.ldL (i:=0) (o:=7) rfl (ssA _) rfl rfl,fun ht=>⟨?_,rfl⟩,fun hf=>⟨_,_,_,k1.ldL (i:=0) (o:=8) rfl (psA _) rfl rfl,?_,rfl⟩⟩,?_⟩
 · have:100<sn:=by simp at ht;omega
   simp [this]
 · have:¬100<sn:=by simp at hf;omega
   simp [this];omega
 rintro t w2 ⟨rfl,rfl⟩
 refine ⟨fun ht=>?_,fun hf=>?_⟩
 · have:largeC C=true:=by rw [e0,←Bool.or_assoc,ht];rfl
   rw [this];exact ⟨rfl,k1.chg⟩
 · have hf':¬100<sn∧¬1100<pn:=by simpa using hf
   have e1:largeC C=C.snaps.any fun s=>decide (100<s.name.length):=by rw [e0,←Bool.or_assoc,hf];rfl
   rw [e1]
   refine ⟨_,_,_,k1.ldL (i:=0) (o:=7) rfl (ssA _) rfl rfl,fun x w'=>∃i:Nat,x=(i:Int)∧i≤sn∧((C.snaps.take i).any fun s=>decide (100<s.name.length))=false∧St w [] w' [.arr g1 47 (catC C sa sn sc pa pn pc)],fun x _=>sn-x.toNat,⟨0,rfl,by omega,by simp,k1⟩,?_⟩
   rintro x w3 ⟨i,rfl,hi,hno,k3⟩
   refine ⟨fun hlt=>?_,fun hge=>?_⟩
   · have hi':i<sn:=by simp at hlt;omega
     obtain ⟨s,hs⟩:∃s,C.snaps[i]?=some s:=⟨_,List.getElem?_eq_getElem (by omega)⟩
     obtain ⟨b,o,ha,q⟩:=hS.ld (P:=Tryz.prog) (by decide) snA snS hs
     obtain ⟨g4,w4,r4,k4⟩:=k3.zeroA snZ
     obtain ⟨w5,r5,k5⟩:=k4.stA (i:=1) (v:=snapC s) rfl (snS _) (by simp) (snapC_len s) (snapC_one s)
     refine ⟨b,o,ha,by omega,by omega,_,by rw [Int.toNat_natCast];exact q w3 (hS.keep0 k3.chg),g4,w4,r4,w5,r5,_,k5.ldL (i:=1) (o:=0) rfl (snStr _) rfl rfl,?_⟩
     rw [sizeSc]
     refine ⟨fun ht=>?_,fun hf=>⟨⟨i+1,wrap_succ hi' (by omega),by omega,?_,k5.sub (List.sublist_append_left [_] [_])⟩,mu_succ hi' (by omega)⟩⟩
     · have hb:100<s.name.length:=by simp at ht;omega
       have:(C.snaps.any fun s=>decide (100<s.name.length))=true:=List.any_eq_true.2 ⟨s,List.mem_of_getElem? hs,by simpa using hb⟩
       rw [this];exact ⟨rfl,k5.chg⟩
     · have hb:¬100<s.name.length:=by simp at hf;omega
       rw [List.take_add_one,hs,List.any_append,hno]
       simp;omega
   · have hi':i=sn:=by simp at hge;omega
     rw [hi',←hsn,List.take_length] at hno
     rw [hno];exact ⟨rfl,k3.chg⟩

end Go.Proofs.YtpmhjnhgpplmnaaGreatDoor
end

section
namespace Go.Proofs.YtpmhjnhgpplmnaaGreatDoor
open Go Sx
set_option maxRecDepth 8000

set_option maxHeartbeats 4000000 in
theorem catalogForms_walk (m:List UInt8) (hm:m.length=32) (C:CatD) (sa:Option Addr) (sn sc:Nat) (pa:Option Addr) (pn pc:Nat) (w:World) (hK:KTab w) (hT:PTab w) (hE:EVar w) (hS0:RdS w sa sn sc C.snaps) (hP0:RdE pkC 3 w pa pn pc C.packs) (hi:CatI C):
   Calls Tryz.prog 5 #[.agg (bv m).toArray,.agg (catC C sa sn sc pa pn pc).toArray] w fun e w'=>e=.returned (.bool true)∧Chg [] w w':=by
 obtain ⟨mI,hI⟩:=eI
 have hsn:=hS0.num (by decide)
 have hpn:=hP0.num (by decide)
 apply amphoralaw16_CatalogForms_vc
 obtain ⟨g2,w1,r1,k1⟩:=(St.start w).boxA (P:=Tryz.prog) 39 (bv m)
 obtain ⟨g3,w2,r2,k2⟩:=k1.boxA (P:=Tryz.prog) 47 (catC C sa sn sc pa pn pc)
 have k2:St w [] w2 [.arr g2 39 (bv m),.arr g3 47 (catC C sa sn sc pa pn pc)]:=k2
 refine ⟨g2,w1,r1,g3,w2,r2,(alive16_spec w2 (hK.keep0 k2.chg) (hT.keep0 k2.chg) (hE.keep0 k2.chg)).mono ?_⟩
 rintro e w3 ⟨rfl,c3⟩
 have k3:=k2.same c3
 refine ⟨_,rfl,fun h=>by simp at h,fun _=>⟨_,k3.ldA (i:=1) (l:=catC C sa sn sc pa pn pc) rfl (caA16 _) (caS16 _) rfl,(large16_spec C sa sn sc pa pn pc w3 (hS0.keep0 k3.chg) (hP0.keep0 k3.chg)).mono ?_⟩⟩
 rintro e w4 ⟨rfl,c4⟩
 have k4:=k3.same c4
 refine ⟨_,rfl,fun _=>⟨rfl,k4.chg⟩,fun hl=>?_⟩
 have hl':sn≤100∧pn≤1100:=by
   simp only [largeC,Bool.or_eq_false_iff,decide_eq_false_iff_not] at hl
   omega
 have h:CatR w C sa sn sc pa pn pc:=by
   refine ⟨by have:=hi.poly;unfold W64;omega,hS0,hP0,fun s hs=>?_⟩
   simp only [largeC,Bool.or_eq_false_iff,decide_eq_false_iff_not,List.any_eq_false,decide_eq_true_eq] at hl
   have:=hl.2.2 s hs
   omega
 obtain ⟨K,hKK⟩:∃K,masterF m=K:=⟨_,rfl⟩
 have hk:K.length=96:=by rw [←hKK];simp
 refine ⟨_,k4.ldA (i:=0) (l:=bv m) rfl (d32A _) (d32S _) (by simp [hm]),(rfromMaster_spec m w4 hm).mono ?_⟩
 rintro e w5 ⟨rfl,c5⟩
 rw [hKK]
 obtain ⟨g5,w6,r6,k6⟩:=(k4.same c5).zeroA kyZ
 obtain ⟨w7,r7,k7⟩:=k6.stA (i:=2) (v:=bv K) rfl (kyS _) (by simp) (by simp [hk]) (bv_one _)
 refine ⟨_,rfl,g5,w6,r6,w7,r7,_,k7.ldA (i:=1) (l:=catC C sa sn sc pa pn pc) rfl (caA16 _) (caS16 _) rfl,(rCopy16_spec C sa sn sc pa pn pc w7 (h.keep0 k7.chg) (by omega) (by omega)).mono ?_⟩
 rintro e w8 ⟨sa1,sc1,pa1,pc1,rfl,k8⟩
 have j8:=Sx.St.callPart (N:=[]) (by rw [List.append_nil];exact k7) k8
 obtain ⟨g6,w9,r9,j9⟩:=j8.zeroA caZ16
 obtain ⟨w10,r10,j10⟩:=j9.stA (i:=5) (v:=catC C sa1 sn sc1 pa1 pn pc1) rfl (caS16 _) rfl rfl (catC_one _ _ _ _ _ _ _)
 obtain ⟨L,hL⟩:∃L:List Res,[.arr g2 39 (bv m),.arr g3 47 (catC C sa sn sc pa pn pc),.arr g5 41 (bv K),.row 89 36 (.slice sa1 sn sc1) sn (C.snaps.flatMap snapC),.row 91 3 (.slice pa1 pn pc1) pn (C.packs.flatMap pkC),.arr g6 47 (catC C sa1 sn sc1 pa1 pn pc1)]=L:=⟨_,rfl⟩
 have j10:St w [] w10 L:=by rw [←hL];exact j10
 have hLl:L.length=6:=by rw [←hL];rfl
 have ix:∀ {R:List Res} (i:Nat),i<6→(L++R)[i]?=L[i]?:=fun i h=>List.getElem?_append_left (by omega)
 have ldK:∀ {w' R},St w [] w' (L++R)→(Instr.loadAt 41 (.pointer (some ⟨g5,0,none⟩))).run Tryz.prog w'=.ok (.agg (bv K).toArray) w':=fun h=>h.ldA (i:=2) (l:=bv K) (by rw [ix 2 (by decide),←hL];rfl) (kyA' _) (kyS' _) (by simp [hk])
 have ldC:∀ {w' R},St w [] w' (L++R)→(Instr.loadAt 47 (.pointer (some ⟨g3,0,none⟩))).run Tryz.prog w'=.ok (.agg (catC C sa sn sc pa pn pc).toArray) w':=fun h=>h.ldA (i:=1) (by rw [ix 1 (by decide),←hL];rfl) (caA16 _) (caS16 _) rfl
 have ldM:∀ {w' R},St w [] w' (L++R)→(Instr.loadAt 47 (.pointer (some ⟨g6,0,none⟩))).run Tryz.prog w'=.ok (.agg (catC C sa1 sn sc1 pa1 pn pc1).toArray) w':=fun h=>h.ldA (i:=5) (by rw [ix 5 (by decide),←hL];rfl) (caA16 _) (caS16 _) rfl
 have rdC:∀ {w' R},St w [] w' (L++R)→CatR w' C sa sn sc pa pn pc:=fun k=>h.keep0 (Sx.St.chg k)
 have rdM:∀ {w' R},St w [] w' (L++R)→CatR w' C sa1 sn sc1 pa1 pn pc1:=fun k=>⟨h.poly,⟨k.rd (i:=3) (by rw [ix 3 (by decide),←hL];rfl),fun s _=>snapC_len s⟩,⟨k.rd (i:=4) (by rw [ix 4 (by decide),←hL];rfl),fun _ _=>rfl⟩,h.names⟩
 have nil:∀ {w'},St w [] w' L→St w [] w' (L++ []):=fun h=>by rw [List.append_nil];exact h
 have okk:checkB C=true→CatOk C:=fun hc=>catOk_of hc hi
 refine ⟨_,rfl,g6,w9,r9,w10,r10,_,ldK (nil j10),_,ldM (nil j10),(catEncode_spec K hk C sa1 sn sc1 pa1 pn pc1 w10 (hK.keep0 j10.chg) (rdM (nil j10)) okk).mono ?_⟩
 rintro e w11 ⟨ba,bn,bc,rfl,f11⟩
 obtain ⟨b,hb⟩:∃b,(if checkB C then encC K C else [])=b:=⟨_,rfl⟩
 rw [hb] at f11
 have j11:=f11.add j10
 refine ⟨_,_,_,_,rfl,_,ldK j11,_,ldC j11,(rEncode16_spec K hk C sa sn sc pa pn pc w11 (rdC j11) okk).mono ?_⟩
 rintro e w12 ⟨da,dn,dc,rfl,f12⟩
 rw [hb] at f12
 have j12:St w [] w12 (L++ [.row 5 1 (.slice ba bn bc) bn (bv b)]):=j11.same f12.1
 have rdb:∀ {w'},St w [] w' (L++ [.row 5 1 (.slice ba bn bc) bn (bv b)])→RdB w' ba bn bc b:=fun h=>h.rd (i:=6) (by rw [List.getElem?_append_right (by omega),hLl];rfl)
 obtain ⟨o,ho⟩:∃o:Option Int,(if checkB C then none else some 28)=o:=⟨_,rfl⟩
 have ho0:o≠some 0:=by rw [←ho];split<;>simp
 have hof:(if checkB C then (0:Int) else 28)=o.getD 0:=by rw [←ho];split<;>rfl
 rw [ho,hof]
 have hS:∀ {w'} {D E:CatD} {a1 n1 c1 a2 n2 c2 a3 n3 c3 a4 n4 c4},D=E→n1≤4000→n2≤4000→CatR w' D a1 n1 c1 a2 n2 c2→CatR w' E a3 n3 c3 a4 n4 c4→Calls Tryz.prog 24 #[.agg (catC D a1 n1 c1 a2 n2 c2).toArray,.agg (catC E a3 n3 c3 a4 n4 c4).toArray] w' fun e w''=>e=.returned (.bool true)∧Chg [] w' w'':=fun {w' D E a1 n1 c1 a2 n2 c2 a3 n3 c3 a4 n4 c4} hDE x1 x2 q1 q2=>by
   refine (rSame16_spec D E a1 n1 c1 a2 n2 c2 a3 n3 c3 a4 n4 c4 w' q1 q2 (by omega) (by omega)).mono ?_
   rintro e w'' ⟨t,rfl,ht,c⟩
   rw [ht.2 hDE];exact ⟨rfl,c⟩
 refine ⟨_,_,_,_,rfl,fun t w'=>t=false∧St w [] w' (L++ [.row 5 1 (.slice ba bn bc) bn (bv b)]),⟨_,toStr Tryz.underlying26 Tryz.underlying5 Tryz.underlying9 (rdb j12).cells (rdb j12).lenB,_,toStr Tryz.underlying26 Tryz.underlying5 Tryz.underlying9 f12.cells f12.rdB.lenB,fun hne=>by simp at hne,fun _=>(num_spec o w12 ho0).mono ?_⟩,?_⟩
 · rintro e w13 ⟨rfl,rfl⟩
   refine ⟨_,rfl,fun hne=>by simp at hne,fun _=>⟨_,ldM j12,(catCheck_spec C sa1 sn sc1 pa1 pn pc1 w13 (rdM j12)).mono ?_⟩⟩
   rintro e w14 ⟨rfl,c14⟩
   have j14:=j12.same c14
   rw [ho]
   refine ⟨_,rfl,(num_spec o w14 ho0).mono ?_⟩
   rintro e w15 ⟨rfl,rfl⟩
   refine ⟨_,rfl,fun hne=>by simp at hne,fun _=>⟨_,ldM j14,_,ldC j14,(hS rfl (by omega) (by omega) (rdM j14) (rdC j14)).mono ?_⟩⟩
   rintro e w16 ⟨rfl,c16⟩
   have j16:=j14.same c16
   refine ⟨_,rfl,fun h=>by simp at h,fun _=>⟨_,ldM j16,_,ldC j16,(catSame_spec C C sa1 sn sc1 pa1 pn pc1 sa sn sc pa pn pc w16 (rdM j16) (rdC j16) (by omega) (by omega)).mono ?_⟩⟩
   rintro e w17 ⟨t,rfl,ht,c17⟩
   exact ⟨_,rfl,by rw [ht.2 rfl];rfl,j16.same c17⟩
 rintro t w18 ⟨rfl,j18⟩
 refine ⟨fun h=>by simp at h,fun _=>⟨_,ldM j18,(catCopy_spec C sa1 sn sc1 pa1 pn pc1 w18 (rdM j18) (by omega) (by omega)).mono ?_⟩⟩
 rintro e w19 ⟨sa2,sc2,pa2,pc2,rfl,k19⟩
 have j19:=Sx.St.callPart (N:=[]) (by rw [List.append_nil];exact j18) k19
 rw [List.append_assoc] at j19
 obtain ⟨g11,w20,r20,j20⟩:=j19.zeroA caZ16
 rw [List.append_assoc] at j20
 have j20:St w [] w20 (L++ [.row 5 1 (.slice ba bn bc) bn (bv b),.row 89 36 (.slice sa2 sn sc2) sn (C.snaps.flatMap snapC),.row 91 3 (.slice pa2 pn pc2) pn (C.packs.flatMap pkC),.arr g11 47 catZ]):=j20
 have i9:∀ {x0 x1 x2 x3:Res} (j:Nat),j<4→(L++ [x0,x1,x2,x3])[6+j]?=[x0,x1,x2,x3][j]?:=fun j _=>by rw [List.getElem?_append_right (by omega),hLl,Nat.add_sub_cancel_left]
 have s9:∀ {x0 x1 x2 x3:Res} (j:Nat) (y:Res),(L++ [x0,x1,x2,x3]).set (6+j) y=L++ [x0,x1,x2,x3].set j y:=fun j y=>by rw [List.set_append_right _ _ (by omega),hLl,Nat.add_sub_cancel_left]
 obtain ⟨w21,r21,j21⟩:=j20.stA (i:=9) (v:=catC C sa2 sn sc2 pa2 pn pc2) (i9 3 (by decide)) (caS16 _) rfl rfl (catC_one _ _ _ _ _ _ _)
 rw [s9 3] at j21
 let H (xs ys:List Value) (w':World):Prop:=St w [] w' (L++ [.row 5 1 (.slice ba bn bc) bn (bv b),.row 89 36 (.slice sa2 sn sc2) sn xs,.row 91 3 (.slice pa2 pn pc2) pn ys,.arr g11 47 (catC C sa2 sn sc2 pa2 pn pc2)])
 have j21:H (C.snaps.flatMap snapC) (C.packs.flatMap pkC) w21:=j21
 have rd2:∀ {w'},H (C.snaps.flatMap snapC) (C.packs.flatMap pkC) w'→CatR w' C sa2 sn sc2 pa2 pn pc2:=fun k=>⟨h.poly,⟨Sx.St.rd k (i:=7) (i9 1 (by decide)),fun s _=>snapC_len s⟩,⟨Sx.St.rd k (i:=8) (i9 2 (by decide)),fun _ _=>rfl⟩,h.names⟩
 refine ⟨_,rfl,g11,w20,r20,w21,r21,_,Sx.St.ldA j21 (i:=9) (i9 3 (by decide)) (caA16 _) (caS16 _) rfl,_,ldC j21,(hS rfl (by omega) (by omega) (rd2 j21) (rdC j21)).mono ?_⟩
 rintro e w22 ⟨rfl,c22⟩
 have j22:H _ _ w22:=Sx.St.same j21 c22
 have ldS:∀ {xs ys w'},H xs ys w'→(Instr.loadAt 25 (.pointer (some ⟨g11,7,none⟩))).run Tryz.prog w'=.ok (.slice sa2 sn sc2) w':=fun k=>Sx.St.ldL k (i:=9) (o:=7) (i9 3 (by decide)) (ssA _) rfl rfl
 have ldP:∀ {xs ys w'},H xs ys w'→(Instr.loadAt 45 (.pointer (some ⟨g11,8,none⟩))).run Tryz.prog w'=.ok (.slice pa2 pn pc2) w':=fun k=>Sx.St.ldL k (i:=9) (o:=8) (i9 3 (by decide)) (psA _) rfl rfl
 refine ⟨_,rfl,fun h=>by simp at h,fun _=>⟨_,_,_,ldS j22,fun x w'=>∃i:Nat,x=(i:Int)∧i≤sn∧∃xs ys,H xs ys w',fun x _=>sn-x.toNat,⟨0,rfl,by omega,_,_,j22⟩,?_⟩⟩
 rintro x w23 ⟨i,rfl,hi2,xs,ys,j23⟩
 refine ⟨fun hlt=>?_,fun hge=>?_⟩
 · have hi':i<sn:=by simp at hlt;omega
   obtain ⟨gb,rfl⟩:=Sx.St.rowAt j23 (i:=7) (i9 1 (by decide)) (by omega)
   obtain ⟨w24,r24,j24⟩:=Sx.St.stRowQ j23 (i:=7) (q:=i*36) (T:=9) (v:=strV [111,118,101,114]) (i9 1 (by decide)) (stS' _) (by omega) rfl
   rw [s9 1] at j24
   exact ⟨_,_,_,ldS j23,gb,0,rfl,by omega,by omega,w24,by rw [Int.toNat_natCast];exact r24,⟨i+1,wrap_succ hi' (by omega),by omega,_,_,j24⟩,mu_succ hi' (by omega)⟩
 · refine ⟨_,_,_,ldP j23,fun x w'=>∃i:Nat,x=(i:Int)∧i≤pn∧∃xs ys,H xs ys w',fun x _=>pn-x.toNat,⟨0,rfl,by omega,_,_,j23⟩,?_⟩
   rintro x w25 ⟨i,rfl,hi2,xs,ys,j25⟩
   refine ⟨fun hlt=>?_,fun hge=>?_⟩
   · have hi':i<pn:=by simp at hlt;omega
     obtain ⟨gb,rfl⟩:=Sx.St.rowAt j25 (i:=8) (i9 2 (by decide)) (by omega)
     obtain ⟨w26,r26,j26⟩:=Sx.St.stRowQ j25 (i:=8) (q:=i*3) (T:=3) (v:=.int .i64 (-7)) (i9 2 (by decide)) (intS _) (by omega) rfl
     rw [s9 2] at j26
     exact ⟨_,_,_,ldP j25,gb,0,rfl,by omega,by omega,w26,by rw [Int.toNat_natCast];exact r26,⟨i+1,wrap_succ hi' (by omega),by omega,_,_,j26⟩,mu_succ hi' (by omega)⟩
   · refine ⟨_,ldM j25,_,ldC j25,(hS rfl (by omega) (by omega) (rdM j25) (rdC j25)).mono ?_⟩
     rintro e w27 ⟨rfl,c27⟩
     have j27:H _ _ w27:=Sx.St.same j25 c27
     refine ⟨_,rfl,fun h=>by simp at h,fun _=>⟨fun _=>⟨rfl,Sx.St.chg j27⟩,fun h0=>?_⟩⟩
     have hc:checkB C=true:=by
       cases hc:checkB C with
       | true=>rfl
       | false=>rw [hc] at ho;rw [←ho] at h0;simp at h0
     rw [hc,if_pos rfl] at hb
     subst hb
     have jb:=Sx.St.sub (N:=L++ [.row 5 1 (.slice ba bn bc) bn (bv (encC K C))]) j27 (List.Sublist.append_left (by simp) _)
     refine ⟨_,ldK j27,(catDecode_spec K hk C (okk hc) hc ba bn bc w27 (hK.keep0 (Sx.St.chg j27)) (rdb jb)).mono ?_⟩
     rintro e w28 ⟨sa3,sc3,pa3,pc3,rfl,k28⟩
     rw [hsn,hpn] at k28 ⊢
     have j28:=Sx.St.callPart (N:=[]) (by rw [List.append_nil];exact jb) k28
     rw [List.append_assoc] at j28
     obtain ⟨g14,w29,r29,j29⟩:=j28.zeroA caZ16
     rw [List.append_assoc] at j29
     have j29:St w [] w29 (L++ [.row 5 1 (.slice ba bn bc) bn (bv (encC K C)),.row 89 36 (.slice sa3 sn sc3) sn (C.snaps.flatMap snapC),.row 91 3 (.slice pa3 pn pc3) pn (C.packs.flatMap pkC),.arr g14 47 catZ]):=j29
     obtain ⟨w30,r30,j30⟩:=j29.stA (i:=9) (v:=catC C sa3 sn sc3 pa3 pn pc3) (i9 3 (by decide)) (caS16 _) rfl rfl (catC_one _ _ _ _ _ _ _)
     rw [s9 3] at j30
     have rd3:CatR w30 C sa3 sn sc3 pa3 pn pc3:=⟨h.poly,⟨j30.rd (i:=7) (i9 1 (by decide)),fun s _=>snapC_len s⟩,⟨j30.rd (i:=8) (i9 2 (by decide)),fun _ _=>rfl⟩,h.names⟩
     refine ⟨_,_,rfl,g14,w29,r29,w30,r30,_,eqlS_nil hI none _ _,fun _=>⟨_,j30.ldA (i:=9) (i9 3 (by decide)) (caA16 _) (caS16 _) rfl,_,ldC j30,(hS rfl (by omega) (by omega) rd3 (rdC j30)).mono ?_⟩,fun h=>by simp at h⟩
     rintro e w31 ⟨rfl,c31⟩
     exact ⟨_,rfl,rfl,(j30.same c31).chg⟩

end Go.Proofs.YtpmhjnhgpplmnaaGreatDoor
end

section
namespace Go.Proofs.YtpmhjnhgpplmnaaGreatDoor
open Go Sx
set_option maxRecDepth 8000

theorem laidP_eq:(Rows.laid_internal_strconv_uint64pow10:DataW Unit)=Lib.tabData .u64 Lib.pow10Tab:=by kernel_rfl
theorem pTab_of_laid {W:World} {rest:List (String×DataW Unit)} (hp:∀w,laidMetH Tryz.prog (("internal/strconv.uint64pow10",Rows.laid_internal_strconv_uint64pow10)::rest) w=laidMet Tryz.prog (("internal/strconv.uint64pow10",Rows.laid_internal_strconv_uint64pow10)::rest) w) (h:laidMetH Tryz.prog (("internal/strconv.uint64pow10",Rows.laid_internal_strconv_uint64pow10)::rest) W):PTab W:=by
 rw [hp,laidP_eq] at h
 have hg:Tryz.prog.globalNamed "internal/strconv.uint64pow10" =some 3:=by kernel_rfl
 exact Lib.tabIs_of_head hg (by kernel_rfl) Tryz.underlying459 Tryz.underlying42 (by kernel_rfl) (by kernel_rfl) h

end Go.Proofs.YtpmhjnhgpplmnaaGreatDoor
end

section
namespace Go.Proofs.YtpmhjnhgpplmnaaGreatDoor
open Go Sx
set_option maxRecDepth 8000

theorem row_es (u:TypeId) (h:Tryz.prog.typeName? 3 u=some "*errors.errorString"):u=455:=by
 have e: "*" ++ "errors.errorString" = "*errors.errorString" :=by decide
 exact typeName_ptr_named (nm:= "errors.errorString") (by rw [e];kernel_rfl) (by kernel_rfl) (by decide) u (by rw [e];exact h)
theorem cells_es:Tryz.prog.cellsOf 457=1:=by kernel_rfl
theorem cells_s:Tryz.prog.cellsOf 9=1:=by kernel_rfl
theorem eVar_of_laid {W:World} (h1:laidMetH Tryz.prog [("strconv.ErrSyntax",Rows.laid_strconv_ErrSyntax)] W) (h2:laidMetH Tryz.prog [("strconv.ErrRange",Rows.laid_strconv_ErrRange)] W):EVar W:=by
 rw [MakeChecks.laidMetH_plain _ _ _ (by kernel_rfl)] at h1 h2
 have g1:Tryz.prog.globalNamed "strconv.ErrSyntax" =some 0:=by kernel_rfl
 have g2:Tryz.prog.globalNamed "strconv.ErrRange" =some 1:=by kernel_rfl
 have t1:(Tryz.prog.globals[0]?).map (·.type)=some 58:=by kernel_rfl
 have t2:(Tryz.prog.globals[1]?).map (·.type)=some 58:=by kernel_rfl
 obtain ⟨a,_,v1,_⟩:=laid_sentinel h1 g1 t1 Tryz.underlying58 row_es Tryz.underlying455 Tryz.underlying457 rfl rfl Tryz.underlying9 cells_es cells_s
 obtain ⟨b,_,v2,_⟩:=laid_sentinel h2 g2 t2 Tryz.underlying58 row_es Tryz.underlying455 Tryz.underlying457 rfl rfl Tryz.underlying9 cells_es cells_s
 exact ⟨⟨_,_,v1⟩,_,_,v2⟩

end Go.Proofs.YtpmhjnhgpplmnaaGreatDoor
end

section
namespace Go.Proofs.YtpmhjnhgpplmnaaGreatDoor
open Go Sx Go.ChangeShapes Go.WideShapes Go.RowKit
set_option maxRecDepth 8000

theorem ccut {α:Type} (l:List α) (i a:Nat):(l.drop i).take a++l.drop (i+a)=l.drop i:=by
 have:=List.take_append_drop a (l.drop i);rwa [List.drop_drop] at this
def OkS (s:SnapD):Prop:=I63 s.time∧I63 s.size∧I63 s.chunks
theorem trodSnapC {H:Type} {enc:TypeId×Value→H} {W:World} {fuel:Nat} {cs:List Value} {x:DataW H×List MemPlace} (hf:DataW.trod enc Tryz.prog W 0 (fun _=>true) true fuel 89 cs=some x):∃s:SnapD,cs=snapC s∧OkS s:=by
 have hu:=Tryz.underlying89
 obtain ⟨xs,m,_,hx,hlen,hxl,hel⟩:=DataW.trod_struct hu hf
 have c1:Tryz.prog.cellsOf 9=1:=by kernel_rfl
 have c2:Tryz.prog.cellsOf 3=1:=by kernel_rfl
 have c3:Tryz.prog.cellsOf 87=32:=by kernel_rfl
 have cT:Tryz.prog.cellsOf 89=36:=by kernel_rfl
 have hx5:xs.length=5:=hxl
 have hlen:cs.length=36:=by rw [←cT];exact hlen
 have k0:DataW.trod enc Tryz.prog W 0 (fun _=>true) true m 9 ((cs.drop 0).take (Tryz.prog.cellsOf 9))=xs[0]?:=hel 0 _ rfl
 have k1:DataW.trod enc Tryz.prog W 0 (fun _=>true) true m 3 ((cs.drop 1).take (Tryz.prog.cellsOf 3))=xs[1]?:=hel 1 _ rfl
 have k2:DataW.trod enc Tryz.prog W 0 (fun _=>true) true m 3 ((cs.drop 2).take (Tryz.prog.cellsOf 3))=xs[2]?:=hel 2 _ rfl
 have k3:DataW.trod enc Tryz.prog W 0 (fun _=>true) true m 3 ((cs.drop 3).take (Tryz.prog.cellsOf 3))=xs[3]?:=hel 3 _ rfl
 have k4:DataW.trod enc Tryz.prog W 0 (fun _=>true) true m 87 ((cs.drop 4).take (Tryz.prog.cellsOf 87))=xs[4]?:=hel 4 _ rfl
 rw [c1] at k0
 rw [c2] at k1 k2 k3
 rw [c3] at k4
 rw [List.getElem?_eq_getElem (by omega)] at k0 k1 k2 k3 k4
 obtain ⟨s1,e0,_⟩:=DataW.trod_string Tryz.underlying9 k0
 obtain ⟨z1,e1,_,w1⟩:=DataW.trod_int Tryz.underlying3 k1
 obtain ⟨z2,e2,_,w2⟩:=DataW.trod_int Tryz.underlying3 k2
 obtain ⟨z3,e3,_,w3⟩:=DataW.trod_int Tryz.underlying3 k3
 obtain ⟨ms,e4,l4⟩:=trodArr Tryz.underlying87 (by kernel_rfl) c3 k4
 have b1:=bounds_i64 w1
 have b2:=bounds_i64 w2
 have b3:=bounds_i64 w3
 refine ⟨⟨s1.data.toList,z1,z2,z3,ms,l4⟩,?_,⟨by show-9223372036854775808≤z1;omega,by show z1≤9223372036854775807;omega⟩,⟨by show-9223372036854775808≤z2;omega,by show z2≤9223372036854775807;omega⟩,⟨by show-9223372036854775808≤z3;omega,by show z3≤9223372036854775807;omega⟩⟩
 have t0:=ccut cs 0 1
 have t1:=ccut cs 1 1
 have t2:=ccut cs 2 1
 have t3:=ccut cs 3 1
 have t4:(cs.drop 4).take 32=cs.drop 4:=List.take_of_length_le (by simp;omega)
 rw [e0] at t0
 rw [e1] at t1
 rw [e2] at t2
 rw [e3] at t3
 rw [e4] at t4
 simp only [Nat.zero_add,Nat.reduceAdd,List.drop_zero] at t0 t1 t2 t3
 rw [←t0,←t1,←t2,←t3,←t4]
 rfl
def OkP (p:PkD):Prop:=I63 p.num∧I63 p.size∧I63 p.count
theorem trodPk {H:Type} {enc:TypeId×Value→H} {W:World} {fuel:Nat} {cs:List Value} {x:DataW H×List MemPlace} (hf:DataW.trod enc Tryz.prog W 0 (fun _=>true) true fuel 91 cs=some x):∃p:PkD,cs=pkC p∧OkP p:=by
 have hu:=Tryz.underlying91
 obtain ⟨xs,m,_,hx,hlen,hxl,hel⟩:=DataW.trod_struct hu hf
 have c2:Tryz.prog.cellsOf 3=1:=by kernel_rfl
 have cT:Tryz.prog.cellsOf 91=3:=by kernel_rfl
 have hx5:xs.length=3:=hxl
 have hlen:cs.length=3:=by rw [←cT];exact hlen
 have k0:DataW.trod enc Tryz.prog W 0 (fun _=>true) true m 3 ((cs.drop 0).take (Tryz.prog.cellsOf 3))=xs[0]?:=hel 0 _ rfl
 have k1:DataW.trod enc Tryz.prog W 0 (fun _=>true) true m 3 ((cs.drop 1).take (Tryz.prog.cellsOf 3))=xs[1]?:=hel 1 _ rfl
 have k2:DataW.trod enc Tryz.prog W 0 (fun _=>true) true m 3 ((cs.drop 2).take (Tryz.prog.cellsOf 3))=xs[2]?:=hel 2 _ rfl
 rw [c2] at k0 k1 k2
 rw [List.getElem?_eq_getElem (by omega)] at k0 k1 k2
 obtain ⟨z0,e0,_,w0⟩:=DataW.trod_int Tryz.underlying3 k0
 obtain ⟨z1,e1,_,w1⟩:=DataW.trod_int Tryz.underlying3 k1
 obtain ⟨z2,e2,_,w2⟩:=DataW.trod_int Tryz.underlying3 k2
 have b0:=bounds_i64 w0
 have b1:=bounds_i64 w1
 have b2:=bounds_i64 w2
 refine ⟨⟨z0,z1,z2⟩,?_,⟨by show-9223372036854775808≤z0;omega,by show z0≤9223372036854775807;omega⟩,⟨by show-9223372036854775808≤z1;omega,by show z1≤9223372036854775807;omega⟩,⟨by show-9223372036854775808≤z2;omega,by show z2≤9223372036854775807;omega⟩⟩
 have t0:=ccut cs 0 1
 have t1:=ccut cs 1 1
 have t2:(cs.drop 2).take 1=cs.drop 2:=List.take_of_length_le (by simp;omega)
 rw [e0] at t0
 rw [e1] at t1
 rw [e2] at t2
 simp only [Nat.zero_add,Nat.reduceAdd,List.drop_zero] at t0 t1
 rw [←t0,←t1,←t2]
 rfl
theorem blocksC {α:Type} {enc:α→List Value} {k:Nat} {Q:α→Prop} :∀(n:Nat) (cs:List Value),cs.length=n*k→(∀i,i<n→∃r:α,(cs.drop (i*k)).take k=enc r∧Q r)→∃l:List α,cs=l.flatMap enc∧∀r∈l,Q r
 | 0,cs,h,_=>⟨[],List.eq_nil_of_length_eq_zero (by omega),by simp⟩
 | n+1,cs,h,hb=>by
   obtain ⟨r,hr,hq⟩:=hb 0 (by omega)
   rw [Nat.zero_mul,List.drop_zero] at hr
   obtain ⟨l,hl,hql⟩:=blocksC (enc:=enc) (Q:=Q) n (cs.drop k) (by rw [List.length_drop,h,Nat.succ_mul,Nat.add_sub_cancel]) fun i hi=>by
     obtain ⟨q,hq,hqq⟩:=hb (i+1) (by omega)
     exact ⟨q,by rw [List.drop_drop,show k+i*k=(i+1)*k by rw [Nat.succ_mul];omega];exact hq,hqq⟩
   refine ⟨r::l,?_,?_⟩
   · rw [List.flatMap_cons,←hl,←hr,List.take_append_drop]
   · intro x hx
     rcases List.mem_cons.1 hx with rfl | hx
     · exact hq
     · exact hql x hx
theorem trodSnapsC {H:Type} {enc:TypeId×Value→H} {W:World} {m:Nat} {cs0:List Value} {x:DataW H×List MemPlace} (h:DataW.trod enc Tryz.prog W 0 (fun _=>true) true m 25 cs0=some x):∃a n c l,cs0=[.slice a n c]∧RdS W a n c l∧∀s∈l,OkS s:=by
 obtain ⟨a,n,c,cs,m,hcs,hrd,hel⟩:=trodRows Tryz.underlying25 (show Tryz.prog.cellsOf 89=36 by kernel_rfl) (by decide) h
 obtain ⟨l,rfl,hq⟩:=blocksC (enc:=snapC) (k:=36) (Q:=OkS) n cs hrd.len fun i hi=>by
   obtain ⟨y,hy⟩:=hel i hi
   obtain ⟨s,h1,h2⟩:=trodSnapC hy
   exact ⟨s,by rw [Nat.mul_comm];exact h1,h2⟩
 exact ⟨a,n,c,l,hcs,⟨hrd,fun x _=>snapC_len x⟩,hq⟩
theorem trodPksC {H:Type} {enc:TypeId×Value→H} {W:World} {m:Nat} {cs0:List Value} {x:DataW H×List MemPlace} (h:DataW.trod enc Tryz.prog W 0 (fun _=>true) true m 45 cs0=some x):∃a n c l,cs0=[.slice a n c]∧RdE pkC 3 W a n c l∧∀p∈l,OkP p:=by
 obtain ⟨a,n,c,cs,m,hcs,hrd,hel⟩:=trodRows Tryz.underlying45 (show Tryz.prog.cellsOf 91=3 by kernel_rfl) (by decide) h
 obtain ⟨l,rfl,hq⟩:=blocksC (enc:=pkC) (k:=3) (Q:=OkP) n cs hrd.len fun i hi=>by
   obtain ⟨y,hy⟩:=hel i hi
   obtain ⟨s,h1,h2⟩:=trodPk hy
   exact ⟨s,by rw [Nat.mul_comm];exact h1,h2⟩
 exact ⟨a,n,c,l,hcs,⟨hrd,fun _ _=>rfl⟩,hq⟩
theorem trodSetC {H:Type} {enc:TypeId×Value→H} {W:World} {fuel:Nat} {cs:List Value} {x:DataW H×List MemPlace} (hf:DataW.trod enc Tryz.prog W 0 (fun _=>true) true fuel 44 cs=some x):∃s:SetD,cs=setC s∧s.poly<18446744073709551616∧I63 s.win∧I63 s.min∧I63 s.max∧I63 s.bits:=by
 have hu:=Tryz.underlying44
 obtain ⟨xs,m,_,hx,hlen,hxl,hel⟩:=DataW.trod_struct hu hf
 have c1:Tryz.prog.cellsOf 42=1:=by kernel_rfl
 have c2:Tryz.prog.cellsOf 3=1:=by kernel_rfl
 have cT:Tryz.prog.cellsOf 44=5:=by kernel_rfl
 have hx5:xs.length=5:=hxl
 have hlen:cs.length=5:=by rw [←cT];exact hlen
 have k0:DataW.trod enc Tryz.prog W 0 (fun _=>true) true m 42 ((cs.drop 0).take (Tryz.prog.cellsOf 42))=xs[0]?:=hel 0 _ rfl
 have k1:DataW.trod enc Tryz.prog W 0 (fun _=>true) true m 3 ((cs.drop 1).take (Tryz.prog.cellsOf 3))=xs[1]?:=hel 1 _ rfl
 have k2:DataW.trod enc Tryz.prog W 0 (fun _=>true) true m 3 ((cs.drop 2).take (Tryz.prog.cellsOf 3))=xs[2]?:=hel 2 _ rfl
 have k3:DataW.trod enc Tryz.prog W 0 (fun _=>true) true m 3 ((cs.drop 3).take (Tryz.prog.cellsOf 3))=xs[3]?:=hel 3 _ rfl
 have k4:DataW.trod enc Tryz.prog W 0 (fun _=>true) true m 3 ((cs.drop 4).take (Tryz.prog.cellsOf 3))=xs[4]?:=hel 4 _ rfl
 rw [c1] at k0
 rw [c2] at k1 k2 k3 k4
 rw [List.getElem?_eq_getElem (by omega)] at k0 k1 k2 k3 k4
 obtain ⟨z0,e0,_,w0⟩:=DataW.trod_int Tryz.underlying42 k0
 obtain ⟨z1,e1,_,w1⟩:=DataW.trod_int Tryz.underlying3 k1
 obtain ⟨z2,e2,_,w2⟩:=DataW.trod_int Tryz.underlying3 k2
 obtain ⟨z3,e3,_,w3⟩:=DataW.trod_int Tryz.underlying3 k3
 obtain ⟨z4,e4,_,w4⟩:=DataW.trod_int Tryz.underlying3 k4
 have b0:=bounds_u64 w0
 have b1:=bounds_i64 w1
 have b2:=bounds_i64 w2
 have b3:=bounds_i64 w3
 have b4:=bounds_i64 w4
 obtain ⟨p,rfl⟩:∃p:Nat,z0=(p:Int):=⟨z0.toNat,by omega⟩
 refine ⟨⟨p,z1,z2,z3,z4⟩,?_,by show p<18446744073709551616;omega,⟨by show-9223372036854775808≤z1;omega,by show z1≤9223372036854775807;omega⟩,⟨by show-9223372036854775808≤z2;omega,by show z2≤9223372036854775807;omega⟩,⟨by show-9223372036854775808≤z3;omega,by show z3≤9223372036854775807;omega⟩,⟨by show-9223372036854775808≤z4;omega,by show z4≤9223372036854775807;omega⟩⟩
 have t0:=ccut cs 0 1
 have t1:=ccut cs 1 1
 have t2:=ccut cs 2 1
 have t3:=ccut cs 3 1
 have t4:(cs.drop 4).take 1=cs.drop 4:=List.take_of_length_le (by simp;omega)
 rw [e0] at t0
 rw [e1] at t1
 rw [e2] at t2
 rw [e3] at t3
 rw [e4] at t4
 simp only [Nat.zero_add,Nat.reduceAdd,List.drop_zero] at t0 t1 t2 t3
 rw [←t0,←t1,←t2,←t3,←t4]
 rfl
theorem openCat {H:Type} {enc:TypeId×Value→H} {W:World} {base:Nat} {v:Value} {d:DataW H} {ps:List MemPlace} (hval:Value.okWide Tryz.prog W .any base 47 v)
   (h:DataW.Trod enc Tryz.prog W 0 (fun _=>true) true 47 v d ps):
   ∃(C:CatD) (sa:Option Addr) (sn sc:Nat) (pa:Option Addr) (pn pc:Nat),v=.agg (catC C sa sn sc pa pn pc).toArray∧RdS W sa sn sc C.snaps∧RdE pkC 3 W pa pn pc C.packs∧CatI C:=by
 have hu:=Tryz.underlying47
 obtain ⟨cs,rfl,_⟩:=okWide_struct hu hval
 obtain ⟨fuel,hf⟩:=h
 obtain ⟨xs,m,_,hx,hlen,hxl,hel⟩:=DataW.trod_struct hu hf
 have c1:Tryz.prog.cellsOf 3=1:=by kernel_rfl
 have c2:Tryz.prog.cellsOf 44=5:=by kernel_rfl
 have c3:Tryz.prog.cellsOf 25=1:=by kernel_rfl
 have c4:Tryz.prog.cellsOf 45=1:=by kernel_rfl
 have cT:Tryz.prog.cellsOf 47=9:=by kernel_rfl
 have hx5:xs.length=5:=hxl
 have hlen:cs.toList.length=9:=by rw [←cT];exact hlen
 have k0:DataW.trod enc Tryz.prog W 0 (fun _=>true) true m 3 ((cs.toList.drop 0).take (Tryz.prog.cellsOf 3))=xs[0]?:=hel 0 _ rfl
 have k1:DataW.trod enc Tryz.prog W 0 (fun _=>true) true m 3 ((cs.toList.drop 1).take (Tryz.prog.cellsOf 3))=xs[1]?:=hel 1 _ rfl
 have k2:DataW.trod enc Tryz.prog W 0 (fun _=>true) true m 44 ((cs.toList.drop 2).take (Tryz.prog.cellsOf 44))=xs[2]?:=hel 2 _ rfl
 have k3:DataW.trod enc Tryz.prog W 0 (fun _=>true) true m 25 ((cs.toList.drop 7).take (Tryz.prog.cellsOf 25))=xs[3]?:=hel 3 _ rfl
 have k4:DataW.trod enc Tryz.prog W 0 (fun _=>true) true m 45 ((cs.toList.drop 8).take (Tryz.prog.cellsOf 45))=xs[4]?:=hel 4 _ rfl
 rw [c1] at k0 k1
 rw [c2] at k2
 rw [c3] at k3
 rw [c4] at k4
 rw [List.getElem?_eq_getElem (by omega)] at k0 k1 k2 k3 k4
 obtain ⟨z0,e0,_,w0⟩:=DataW.trod_int Tryz.underlying3 k0
 obtain ⟨z1,e1,_,w1⟩:=DataW.trod_int Tryz.underlying3 k1
 obtain ⟨s,e2,hp,_⟩:=trodSetC k2
 obtain ⟨sa,sn,sc,ls,e3,hS,qS⟩:=trodSnapsC k3
 obtain ⟨pa,pn,pc,lp,e4,hP,qP⟩:=trodPksC k4
 refine ⟨⟨z0,z1,s,ls,lp⟩,sa,sn,sc,pa,pn,pc,?_,hS,hP,⟨hp,fun x hx=>(qS x hx).2.1.2,fun x hx=>⟨(qP x hx).2.1.2,(qP x hx).2.2.2⟩⟩⟩
 have:cs.toList=catC ⟨z0,z1,s,ls,lp⟩ sa sn sc pa pn pc:=by
   have t0:=ccut cs.toList 0 1
   have t1:=ccut cs.toList 1 1
   have t2:=ccut cs.toList 2 5
   have t3:=ccut cs.toList 7 1
   have t4:(cs.toList.drop 8).take 1=cs.toList.drop 8:=List.take_of_length_le (by simp;omega)
   rw [e0] at t0
   rw [e1] at t1
   rw [e2] at t2
   rw [e3] at t3
   rw [e4] at t4
   simp only [Nat.zero_add,Nat.reduceAdd,List.drop_zero] at t0 t1 t2 t3
   rw [←t0,←t1,←t2,←t3,←t4]
   rfl
 rw [←this]

end Go.Proofs.YtpmhjnhgpplmnaaGreatDoor
end
