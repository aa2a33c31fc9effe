/- The proof of RepoStoresCardSaid, part 1: what it rests on (conditions: those that each theorem names). -/
import Derived.WalkKit
import Derived.Deep.Draws
import Derived.Orders
import Derived.OrdersHeld
import Derived.Deep.MidRow
import Derived.Laws.BytesArg
import Derived.Laws.MakeOwn
import Derived.Laws.OwnMore
import Derived.Maps.AppendAt
import Derived.Test.YtpmhjnhgpplmnaaGreatDoorRows
import Derived.ChangeSlices
import Derived.SizedLaws
import Derived.OpenShut
import Derived.Below
import Derived.ProofKit
import Derived.LaidMore
import Derived.LaidHandle
import Derived.Lib.LaidTab
import Derived.Stop.Joined
import Derived.Laws.StructEq
import Derived.Laws.CopyRow
import Derived.Laws.IdiomCopy
import Derived.Lib.ConvBytes
import Derived.Laws.Cover3
import Derived.Lib.AppendZerosOnto
import Derived.Shelf.Strconv.Itoa3
import Derived.Ground.NamesProg
import Derived.Maps.RangeRun
import Derived.RangeFuncRecord
import Derived.Lib.ItoaLen
import Derived.Lib.ItoaMem
import Derived.Lib.AtoiAll
import Derived.Shelf.LaysC
import Derived.Shelf.Strconv.ErrVarAll
import Derived.Shelf.SlGeneric
import Derived.Shelf.SlIter.Sorted
import Derived.Shelf.SortM.Plain
import Derived.Shelf.SortM.SortNone
import Derived.Ground.GgzProg
import Derived.Ground.SlgmProg
import Derived.LaidEql
import Derived.Stop.Asserts
import Derived.RowKitTokens
import Derived.Laws.Externs
import Derived.Lib.BytesEntry
import Derived.Sort.Grow
import Derived.Sort.Row
import Derived.Shelf.SlSortCmp.WholeK
import Derived.Ground.SlsfProg
import Derived.Shelf.SlSortCmp.NoneTotal
import Derived.Stop.LaidErr
import Derived.SevenTiedAt
import Derived.LaidSub
section
namespace Go.Proofs.YtpmhjnhgpplmnaaGreatDoor.Sx
open Go
set_option maxRecDepth 8000

inductive Kd where
 | int (k:IntKind) | bool | str | ptr | slice | agg | val

abbrev Env:=List (Nat×Option Value)

def look:Env→Nat→Option Value
 | [],_=>none
 | (t,v)::r,s=>bif Nat.beq t s then v else look r s

def lk (env:Env):Operand→Option Value
 | .tmp t=>look env t
 | .const v=>some v
 | .global g=>some (.pointer (some ⟨g,0,none⟩))
 | .func f=>some (.func (.func f) #[] #[])

def lks (env:Env):List Operand→Option (List Value)
 | []=>some []
 | x::r=>match lk env x,lks env r with
   | some v,some vs=>some (v::vs)
   | _,_=>none

def put (env:Env) (d:Option Tmp) (v:Value):Env:=match d with
 | some s=>(s,some v)::env
 | none=>env

def dOk (N:Nat):Option Tmp→Bool
 | some s=>Nat.blt s N
 | none=>true

structure Agr (env:Env) (N:Nat) (a:Act) (df:List Deferred):Prop where
 defers:a.defers=df
 size:a.tmps.size=N
 at_:∀s v,look env s=some v→a.tmps[s]?=some v

section
variable {df:List Deferred}

theorem Agr.eval {env:Env} {N:Nat} {a:Act} (h:Agr env N a df) {x:Operand} {v:Value} (hx:lk env x=some v):a.eval x=v:=by
 cases x with
 | tmp t=>
   have:=h.at_ t v hx
   simp [Act.eval,this]
 | const u=>simpa [lk,Act.eval] using hx
 | global g=>simpa [lk,Act.eval] using hx
 | func f=>simpa [lk,Act.eval] using hx

theorem Agr.LY {env:Env} {N:Nat} {a:Act} (h:Agr env N a df):∀ {xs:List Operand} {vs:List Value},lks env xs=some vs→xs.map a.eval=vs
 | [],vs,hx=>by simpa [lks] using hx
 | x::r,vs,hx=>by
   simp only [lks] at hx
   split at hx
   · rename_i v us h1 h2
     simp only [Option.some.injEq] at hx
     subst hx
     simp [h.eval h1,h.LY h2]
   · cases hx

theorem Agr.put {env:Env} {N:Nat} {a:Act} (h:Agr env N a df) {d:Option Tmp} (hd:dOk N d=true) (v:Value):Agr (put env d v) N (a.put d v) df:=by
 cases d with
 | none=>exact h
 | some s=>
   have hs:s<N:=by simpa [dOk] using hd
   refine ⟨h.defers,by simp [Act.put,h.size],fun t u ht=>?_⟩
   simp only [Sx.put,look] at ht
   simp only [Act.put,Array.getElem?_setIfInBounds,h.size]
   by_cases e:s=t
   · subst e
     simp at ht
     simp [hs,ht]
   · have hb:Nat.beq s t=false:=by
       cases hbe:Nat.beq s t with
       | false=>rfl
       | true=>exact absurd (Nat.eq_of_beq_eq_true hbe) e
     rw [hb] at ht
     simp only [cond_false] at ht
     simpa [e] using h.at_ t u ht

def forget:List Nat→Env→Env
 | [],env=>env
 | s::r,env=>(s,none)::forget r env

theorem gO {env:Env} {s:Nat} {v:Value} :∀ {asg:List Nat},look (forget asg env) s=some v→look env s=some v∧s∉asg
 | [],h=>⟨h,by simp⟩
 | t::r,h=>by
   simp only [forget,look] at h
   cases hb:Nat.beq t s with
   | true=>rw [hb] at h;simp at h
   | false=>
     rw [hb] at h
     simp only [cond_false] at h
     obtain ⟨h1,h2⟩:=gO h
     refine ⟨h1,?_⟩
     simp only [List.mem_cons,not_or]
     refine ⟨fun e=>?_,h2⟩
     subst e
     simp at hb

theorem Agr.forget {env:Env} {N:Nat} {a:Act} (h:Agr env N a df) (asg:List Nat):Agr (forget asg env) N a df:=
 ⟨h.defers,h.size,fun s v hs=>h.at_ s v (gO hs).1⟩

end


def eo (k:IntKind) (a b:Int):Int:=k.wrap ((BitVec.ofInt k.bits a&&& BitVec.ofInt k.bits b).toNat:Int)
def bor (k:IntKind) (a b:Int):Int:=k.wrap ((BitVec.ofInt k.bits a||| BitVec.ofInt k.bits b).toNat:Int)
def aU (k:IntKind) (a b:Int):Int:=k.wrap ((BitVec.ofInt k.bits a^^^BitVec.ofInt k.bits b).toNat:Int)
def LX (k:IntKind) (a b:Int):Int:=k.wrap ((BitVec.ofInt k.bits a&&& ~~~ BitVec.ofInt k.bits b).toNat:Int)

def M7 (op:BinOp) (k:IntKind) (a b:Int):Option Value:=
 match op with
 | .add=>some (.int k (k.wrap (a+b)))
 | .sub=>some (.int k (k.wrap (a-b)))
 | .mul=>some (.int k (k.wrap (a*b)))
 | .quo=>if b=0 then none else some (.int k (k.wrap (a.tdiv b)))
 | .rem=>if b=0 then none else some (.int k (a.tmod b))
 | .and=>some (.int k (eo k a b))
 | .or=>some (.int k (bor k a b))
 | .xor=>some (.int k (aU k a b))
 | .andNot=>some (.int k (LX k a b))
 | .eql=>some (.bool (a==b))
 | .neq=>some (.bool (a != b))
 | .lss=>some (.bool (decide (a<b)))
 | .leq=>some (.bool (decide (a≤b)))
 | .gtr=>some (.bool (decide (a>b)))
 | .geq=>some (.bool (decide (a≥b)))
 | _=>none

def gY (k:IntKind) (a b:Int):Int:=k.wrap (a*2^(min b.toNat k.bits))
def dh (k:IntKind) (a b:Int):Int:=a.fdiv (2^(min b.toNat k.bits))

def ox:Operand→Bool
 | .const .nilIface=>true
 | _=>false

def Mi (P:Program) (op:BinOp) (t:TypeId) (xc:Bool) (x y:Value):Option Value:=
 match x,y with
 | .int k a,.int k' b=>match op with
   | .shl=>if b<0 then none else some (.int k (gY k a b))
   | .shr=>if b<0 then none else some (.int k (dh k a b))
   | _=>if k=k' then M7 op k a b else none
 | .string a,.string b=>match op with
   | .eql=>some (.bool (a.toList==b.toList))
   | .neq=>some (.bool !(a.toList==b.toList))
   | _=>none
 | .bool a,.bool b=>match P.underlying t with
   | some .bool=>match op with
     | .eql=>some (.bool (a==b))
     | .neq=>some (.bool !(a==b))
     | _=>none
   | _=>none
 | .slice a _ _,.slice none _ _=>match P.underlying t with
   | some (.slice _)=>match op with
     | .eql=>some (.bool a.isNone)
     | .neq=>some (.bool !a.isNone)
     | _=>none
   | _=>none
 | .pointer a,.pointer none=>match P.underlying t with
   | some (.pointer _)=>match op with
     | .eql=>some (.bool a.isNone)
     | .neq=>some (.bool !a.isNone)
     | _=>none
   | _=>none
 | .iface _ _,.nilIface=>match P.underlying t with
   | some (.interface _)=>match op with
     | .eql=>some (.bool false)
     | .neq=>some (.bool true)
     | _=>none
   | _=>none
 | .nilIface,.nilIface=>bif xc then match P.underlying t with
   | some (.interface _)=>match op with
     | .eql=>some (.bool true)
     | .neq=>some (.bool false)
     | _=>none
   | _=>none else none
 | .iface tx (.int k a),.iface ty (.int k' b)=>match P.underlying t,P.underlying tx,P.info? tx with
   | some (.interface _),some (.int _),some inf=>bif Nat.beq tx ty&&inf.comparable then
       if k=k' then match op with
         | .eql=>some (.bool (a==b))
         | .neq=>some (.bool !(a==b))
         | _=>none
       else none
     else none
   | _,_,_=>none
 | _,_=>none

def L7 (P:Program) (t:TypeId) (x:Value):Option Value:=
 match P.underlying t with
 | some (.interface _)=>none
 | some _=>match x with
   | .iface u v=>if u=t then some (.tuple #[v,.bool true]) else none
   | .nilIface=>match P.info? t with
     | some inf=>match inf.zero with
       | some z=>some (.tuple #[z,.bool false])
       | none=>none
     | none=>none
   | _=>none
 | none=>none

def unV (op:UnOp) (x:Value):Option Value:=
 match op,x with
 | .neg,.int k n=>some (.int k (k.wrap (0-n)))
 | .xor,.int k n=>some (.int k (aU k (if k.signed then-1 else k.max) n))
 | .not,.bool b=>some (.bool !b)
 | _,_=>none

def L0 (P:Program) (s d:TypeId) (x:Value):Option Value:=
 match P.underlying s,P.underlying d,x with
 | some (.int _),some (.int k),.int _ n=>some (.int k (k.wrap n))
 | some .string,some .string,.string b=>some (.string b)
 | _,_,_=>none

def JP (c:Bool) (x y:Value):Value:=
 match x,y with
 | .bool p,.bool q=>.bool (bif c then p else q)
 | _,_=>bif c then x else y

def Np (P:Program) (t:TypeId) (x:Value):Option Value:=
 match P.underlying t,x with
 | some .string,.string s=>some (.int .i64 s.size)
 | some (.slice _),.slice _ n _=>some (.int .i64 n)
 | some (.array n _),_=>some (.int .i64 n)
 | _,_=>none

def NO (P:Program) (t:TypeId) (x:Value):Option Value:=
 match P.underlying t,x with
 | some (.slice _),.slice _ _ c=>some (.int .i64 c)
 | _,_=>none

def NW (x y:Value):Option Value:=match x,y with
 | .int k a,.int _ b=>some (.int k (if b<a then b else a))
 | _,_=>none
def NF (x y:Value):Option Value:=match x,y with
 | .int k a,.int _ b=>some (.int k (if a<b then b else a))
 | _,_=>none

def at0 (a:Addr) (n:Nat):Option Value:=match a with
 | ⟨b,o,none⟩=>some (.pointer (some ⟨b,o+n,none⟩))
 | _=>none

def pv (P:Program) (env:Env) (o:Oper):Option Value:=
 match o.op with
 | .move x=>lk env x
 | .assign x=>lk env x
 | .pick c a b=>match lk env c,lk env a,lk env b with
   | some (.bool c),some x,some y=>some (JP c x y)
   | _,_,_=>none
 | .binOp op t x y _=>match lk env x,lk env y with
   | some a,some b=>Mi P op t (ox x||ox y) a b
   | _,_=>none
 | .unOp op _ x=>match lk env x with
   | some a=>unV op a
   | _=>none
 | .convert s d x=>match lk env x with
   | some a=>L0 P s d a
   | _=>none
 | .makeInterface t x=>match P.underlying t,lk env x with
   | some (.interface _),_=>none
   | some _,some a=>some (.iface t a)
   | _,_=>none
 | .extract t i=>match lk env t with
   | some (.tuple vs)=>vs[i]?
   | _=>none
 | .typeAssert x _ t true=>match lk env x with
   | some v=>L7 P t v
   | none=>none
 | .nilCheck x=>match lk env x with
   | some (.pointer (some a))=>some (.pointer (some a))
   | _=>none
 | .fieldAddr t x f=>match P.underlying t,lk env x with
   | some (.struct fs),some (.pointer (some a))=>match fs[f]? with
     | some fd=>match P.info? fd.type with
       | some i=>bif Nat.beq i.size 0 then none else at0 a fd.offset
       | none=>none
     | none=>none
   | _,_=>none
 | .indexAddr t x i=>match P.underlying t,lk env x,lk env i with
   | some (.array len e),some (.pointer (some a)),some (.int _ n)=>match P.info? e with
     | some inf=>if 0≤n∧n<(len:Int) then at0 a (n.toNat*inf.size) else none
     | none=>none
   | _,_,_=>none
 | .call c=>match c.callee,c.args.toList,c.argTypes.toList with
   | .builtin .len,[x],[t]=>match lk env x with
     | some a=>Np P t a
     | none=>none
   | .builtin .cap,[x],[t]=>match lk env x with
     | some a=>NO P t a
     | none=>none
   | .builtin .min,[x,y],_=>match lk env x,lk env y with
     | some a,some b=>NW a b
     | _,_=>none
   | .builtin .max,[x,y],_=>match lk env x,lk env y with
     | some a,some b=>NF a b
     | _,_=>none
   | _,_,_=>none
 | _=>none

section
variable {P:Program} {env:Env} {N:Nat} {a:Act} {w:World} {df:List Deferred}

theorem Ju {op:BinOp} {t:TypeId} {k:IntKind} {x y:Int} {v:Value} (h:M7 op k x y=some v):(binOp op t (.int k x) (.int k y)).run P w=.ok v w:=by
 cases op<;>simp only [M7,Option.some.injEq,reduceCtorEq] at h
 all_goals first
   | (subst h;simp [binOp,Op.intArith,Op.intBits,Op.intCmp,eo,bor,aU,LX];done)
   | (split at h
      · cases h
      · rename_i hne;simp only [Option.some.injEq] at h;subst h;simp [binOp,Op.intDiv,hne])

theorem Dk {t:TypeId} {x y:Value} {b:Bool} (h:∀d,(Op.equalIn (d+1) t x y).run P w=.ok b w):(Op.equal t x y).run P w=.ok b w:=h 9999

theorem ym {t:TypeId} {x y:Value} {b:Bool} (hx:∀k n,x≠ .int k n) (hf:∀k n,x≠ .float k n) (hc:∀k n m,x≠ .complex k n m) (hs:∀n,x≠ .string n)
   (h:∀d,(Op.equalIn (d+1) t x y).run P w=.ok b w):(binOp .eql t x y).run P w=.ok (.bool b) w:=by
 have he:binOp .eql t x y=(do pure (.bool (←Op.equal t x y)):Sem Value):=by
   unfold binOp
   split<;>first | rfl | (exfalso;simp_all;done) | skip
 rw [he]
 simp only [Sem.run_bind,Dk h,Result.andThen_ok]
 rfl

theorem x8 {t:TypeId} {x y:Value} {b:Bool} (hx:∀k n,x≠ .int k n) (hf:∀k n,x≠ .float k n) (hc:∀k n m,x≠ .complex k n m) (hs:∀n,x≠ .string n)
   (h:∀d,(Op.equalIn (d+1) t x y).run P w=.ok b w):(binOp .neq t x y).run P w=.ok (.bool !b) w:=by
 have he:binOp .neq t x y=(do pure (.bool (!(←Op.equal t x y))):Sem Value):=by
   unfold binOp
   split<;>first | rfl | (exfalso;simp_all;done) | skip
 rw [he]
 simp only [Sem.run_bind,Dk h,Result.andThen_ok]
 rfl

theorem Kw {op:BinOp} {t:TypeId} {x y:Operand} {u v r:Value} (h:Mi P op t (ox x||ox y) u v=some r):
   (do eqGuard op t x y u v;binOp op t u v:Sem Value).run P w=.ok r w:=by
 unfold Mi at h
 split at h
 · rename_i k a k' b
   have hg:∀(p q:Int),(eqGuard op t x y (.int k p) (.int k' q)).run P w=.ok () w:=by
     intro p q;unfold eqGuard;cases op<;>rfl
   simp only [Sem.run_bind,hg,Result.andThen_ok]
   split at h
   · split at h
     · cases h
     · rename_i hn;simp only [Option.some.injEq] at h;subst h;simp [binOp,Op.shift,hn,gY]
   · split at h
     · cases h
     · rename_i hn;simp only [Option.some.injEq] at h;subst h;simp [binOp,Op.shift,hn,dh]
   · split at h
     · rename_i hk;subst hk;exact Ju h
     · cases h
 · rename_i a b
   have hg:(eqGuard op t x y (.string a) (.string b)).run P w=.ok () w:=by unfold eqGuard;cases op<;>rfl
   simp only [Sem.run_bind,hg,Result.andThen_ok]
   split at h<;>first | (simp only [Option.some.injEq] at h;subst h;simp [binOp,Op.stringOp]) | cases h
 · rename_i a b
   have hg:(eqGuard op t x y (.bool a) (.bool b)).run P w=.ok () w:=by unfold eqGuard;cases op<;>rfl
   simp only [Sem.run_bind,hg,Result.andThen_ok]
   split at h
   · rename_i hu
     have H:∀d,(Op.equalIn (d+1) t (.bool a) (.bool b)).run P w=.ok (a==b) w:=fun d=>by simp [Op.equalIn,run_underlying hu]
     split at h<;>first | (simp only [Option.some.injEq] at h;subst h;first | exact ym (by simp) (by simp) (by simp) (by simp) H | exact x8 (by simp) (by simp) (by simp) (by simp) H) | cases h
   · cases h
 · rename_i a n c n' c'
   have hg:(eqGuard op t x y (.slice a n c) (.slice none n' c')).run P w=.ok () w:=by unfold eqGuard;cases op<;>rfl
   simp only [Sem.run_bind,hg,Result.andThen_ok]
   split at h
   · rename_i hu
     have H:∀d,(Op.equalIn (d+1) t (.slice a n c) (.slice none n' c')).run P w=.ok a.isNone w:=fun d=>by cases a<;>simp [Op.equalIn,run_underlying hu]
     split at h<;>first | (simp only [Option.some.injEq] at h;subst h;first | exact ym (by simp) (by simp) (by simp) (by simp) H | exact x8 (by simp) (by simp) (by simp) (by simp) H) | cases h
   · cases h
 · rename_i a
   have hg:(eqGuard op t x y (.pointer a) (.pointer none)).run P w=.ok () w:=by unfold eqGuard;cases op<;>rfl
   simp only [Sem.run_bind,hg,Result.andThen_ok]
   split at h
   · rename_i hu
     have H:∀d,(Op.equalIn (d+1) t (.pointer a) (.pointer none)).run P w=.ok a.isNone w:=fun d=>by cases a<;>simp [Op.equalIn,run_underlying hu]
     split at h<;>first | (simp only [Option.some.injEq] at h;subst h;first | exact ym (by simp) (by simp) (by simp) (by simp) H | exact x8 (by simp) (by simp) (by simp) (by simp) H) | cases h
   · cases h
 · rename_i tt vv
   have hg:(eqGuard op t x y (.iface tt vv) .nilIface).run P w=.ok () w:=by unfold eqGuard;cases op<;>rfl
   simp only [Sem.run_bind,hg,Result.andThen_ok]
   split at h
   · rename_i hu
     have H:∀d,(Op.equalIn (d+1) t (.iface tt vv) .nilIface).run P w=.ok false w:=fun d=>by simp [Op.equalIn,run_underlying hu]
     split at h<;>first | (simp only [Option.some.injEq] at h;subst h;first | exact ym (by simp) (by simp) (by simp) (by simp) H | exact x8 (by simp) (by simp) (by simp) (by simp) H) | cases h
   · cases h
 · cases hc:(ox x||ox y) with
   | false=>rw [hc] at h;simp at h
   | true=>
     rw [hc] at h
     simp only [cond_true] at h
     split at h
     · rename_i hu
       have hxy:∀z:Operand,ox z=true→∃c,z=.const c:=by
         intro z hz;cases z<;>simp [ox] at hz ⊢
       have hg:(eqGuard op t x y .nilIface .nilIface).run P w=.ok () w:=by
         simp only [Bool.or_eq_true] at hc
         rcases hc with hz | hz
         · obtain ⟨c,rfl⟩:=hxy _ hz;unfold eqGuard;cases op<;>rfl
         · obtain ⟨c,rfl⟩:=hxy _ hz;unfold eqGuard;cases op<;>cases x<;>rfl
       simp only [Sem.run_bind,hg,Result.andThen_ok]
       have H:∀d,(Op.equalIn (d+1) t .nilIface .nilIface).run P w=.ok true w:=fun d=>by simp [Op.equalIn,run_underlying hu]
       split at h<;>first | (simp only [Option.some.injEq] at h;subst h;first | exact ym (by simp) (by simp) (by simp) (by simp) H | exact x8 (by simp) (by simp) (by simp) (by simp) H) | cases h
     · cases h
 · rename_i tx k a ty k' b
   have hg:(eqGuard op t x y (.iface tx (.int k a)) (.iface ty (.int k' b))).run P w=.ok () w:=by unfold eqGuard;cases op<;>rfl
   simp only [Sem.run_bind,hg,Result.andThen_ok]
   split at h
   · rename_i ms kk inf hu hx hi
     cases hb:(Nat.beq tx ty&&inf.comparable) with
     | false=>rw [hb] at h;cases h
     | true=>
       rw [hb] at h
       simp only [cond_true] at h
       simp only [Bool.and_eq_true] at hb
       have e:=Nat.eq_of_beq_eq_true hb.1
       subst e
       split at h
       · rename_i hk
         subst hk
         have H:∀d,(Op.equalIn (d+2) t (.iface tx (.int k a)) (.iface tx (.int k b))).run P w=.ok (a==b) w:=fun d=>by
           simp [Op.equalIn,run_underlying hu,run_underlying hx,typeInfo,hi,hb.2]
         have E:(Op.equal t (.iface tx (.int k a)) (.iface tx (.int k b))).run P w=.ok (a==b) w:=H 9998
         split at h<;>first | (simp only [Option.some.injEq] at h;subst h;simp [binOp,E]) | cases h
       · cases h
   · cases h
 · cases h

theorem Kb {ad:Addr} {n:Nat} {v:Value} (h:at0 ad n=some v):v=.pointer (some (ad.add n)):=by
 unfold at0 at h
 split at h
 · simp only [Option.some.injEq] at h;rw [←h,Addr.add_lit]
 · cases h

theorem fU {o:Oper} {s:Sem Value} {v:Value} {w':World} (he:execOp a.eval o=(do pure (.value (←s)))) (h:s.run P w=.ok v w'):(execOp a.eval o).run P w=.ok (.value v) w':=by
 rw [he];simp [h]

theorem JF {o:Oper} {v:Value} (hA:Agr env N a df) (h:pv P env o=some v):(execOp a.eval o).run P w=.ok (.value v) w:=by
 unfold pv at h
 split at h
 · rename_i x ho;unfold execOp;simp [ho,hA.eval h]
 · rename_i x ho;unfold execOp;simp [ho,hA.eval h]
 · rename_i c x y ho
   split at h
   · rename_i c' x' y' h1 h2 h3
     simp only [Option.some.injEq] at h
     subst h
     unfold execOp
     simp only [ho,hA.eval h1,hA.eval h2,hA.eval h3,asBool]
     cases c'<;>(unfold JP;split<;>simp_all)
   · cases h
 · rename_i op t x y yt ho
   split at h
   · rename_i x' y' h1 h2
     refine fU (s:=do eqGuard op t x y (a.eval x) (a.eval y);binOp op t (a.eval x) (a.eval y)) (by unfold execOp;simp [ho]) ?_
     rw [hA.eval h1,hA.eval h2]
     exact Kw h
   · cases h
 · rename_i op t x ho
   split at h
   · rename_i x' h1
     refine fU (s:=Op.unary op (a.eval x)) (by unfold execOp;simp [ho]) ?_
     rw [hA.eval h1]
     unfold unV at h
     split at h<;>first | (simp only [Option.some.injEq] at h;subst h;simp [Op.unary,Op.intArith,Op.intBits,aU]) | cases h
   · cases h
 · rename_i s d x ho
   split at h
   · rename_i x' h1
     refine fU (s:=convert s d (a.eval x)) (by unfold execOp;simp [ho]) ?_
     rw [hA.eval h1]
     unfold L0 at h
     split at h
     · rename_i h2 h3;simp only [Option.some.injEq] at h;subst h;simp [convert,run_underlying h2,run_underlying h3,Conv.intToInt]
     · rename_i h2 h3;simp only [Option.some.injEq] at h;subst h;simp [convert,run_underlying h2,run_underlying h3]
     · cases h
   · cases h
 · rename_i t x ho
   split at h
   · cases h
   · rename_i d x' hni h2 h1
     simp only [Option.some.injEq] at h
     subst h
     refine fU (s:=Instr.makeInterface t (a.eval x)) (by unfold execOp;simp [ho]) ?_
     rw [hA.eval h1]
     have hd:∀ms,d≠ .interface ms:=fun ms e=>hni ms e
     unfold Instr.makeInterface
     simp only [Sem.run_bind,run_underlying h2,Result.andThen_ok]
     rfl
   · cases h
 · rename_i t i ho
   split at h
   · rename_i vs h1
     refine fU (s:=Instr.extract (a.eval t) i) (by unfold execOp;simp [ho]) ?_
     rw [hA.eval h1]
     simp [Instr.extract,h]
   · cases h
 · rename_i x tx t ho
   split at h
   · rename_i v' h1
     refine fU (s:=Instr.typeAssert (a.eval x) tx t true) (by unfold execOp;simp [ho]) ?_
     rw [hA.eval h1]
     unfold L7 at h
     split at h
     · cases h
     · rename_i d hni h2
       have hd:∀ms,d≠ .interface ms:=fun ms e=>hni ms e
       split at h
       · rename_i u v2
         split at h
         · rename_i hu
           subst hu
           simp only [Option.some.injEq] at h
           subst h
           cases d<;>first | exact absurd rfl (hd _) | simp [Instr.typeAssert,run_underlying h2]
         · cases h
       · split at h
         · rename_i inf hi
           split at h
           · rename_i z hz
             simp only [Option.some.injEq] at h
             subst h
             cases d<;>first | exact absurd rfl (hd _) | simp [Instr.typeAssert,run_underlying h2,zeroValue,typeInfo,hi,hz]
           · cases h
         · cases h
       · cases h
     · cases h
   · cases h
 · rename_i x ho
   split at h
   · rename_i ad h1
     simp only [Option.some.injEq] at h
     subst h
     unfold execOp
     simp [ho,hA.eval h1]
   · cases h
 · rename_i t x f ho
   split at h
   · rename_i fs ad h2 h1
     split at h
     · rename_i fd hf
       split at h
       · rename_i inf hi
         cases hz:Nat.beq inf.size 0 with
         | true=>rw [hz] at h;simp at h
         | false=>
           rw [hz] at h
           simp only [cond_false] at h
           have hne:inf.size≠0:=fun e=>by rw [e] at hz;simp at hz
           refine fU (s:=Instr.fieldAt t (a.eval x) f) (by unfold execOp;simp [ho]) ?_
           rw [hA.eval h1,Kb h]
           simp [Instr.fieldAt,run_underlying h2,hf,Instr.sureAddr,fieldPlace,sizeOf,typeInfo,hi,hne]
       · cases h
     · cases h
   · cases h
 · rename_i t x i ho
   split at h
   · rename_i len e ad k n h2 h1 h3
     split at h
     · rename_i inf hi
       split at h
       · rename_i hin
         refine fU (s:=Instr.indexAt t (a.eval x) (a.eval i)) (by unfold execOp;simp [ho]) ?_
         rw [hA.eval h1,hA.eval h3,Kb h]
         simp [Instr.indexAt,asIntOf,run_underlying h2,Instr.sureAddr,hin,sizeOf,typeInfo,hi]
       · cases h
     · cases h
   · cases h
 · rename_i c ho
   split at h
   · rename_i x t hc hx ht
     split at h
     · rename_i x' h1
       have hxa:c.args= #[x]:=by rw [←hx]
       have hta:c.argTypes= #[t]:=by rw [←ht]
       refine fU (s:=Builtin.len_ #[t] o.type #[x']) (by unfold execOp;simp [ho,resolve,hc,invoke,builtin,hxa,hta,hA.eval h1]) ?_
       unfold Np at h
       split at h
       · rename_i s h2;simp only [Option.some.injEq] at h;subst h;simp [Builtin.len_,run_underlying h2,goInt]
       · rename_i h2;simp only [Option.some.injEq] at h;subst h;simp [Builtin.len_,run_underlying h2,goInt]
       · rename_i h2;simp only [Option.some.injEq] at h;subst h;simp [Builtin.len_,run_underlying h2,goInt]
       · cases h
     · cases h
   · rename_i x t hc hx ht
     split at h
     · rename_i x' h1
       have hxa:c.args= #[x]:=by rw [←hx]
       have hta:c.argTypes= #[t]:=by rw [←ht]
       refine fU (s:=Builtin.cap_ #[t] o.type #[x']) (by unfold execOp;simp [ho,resolve,hc,invoke,builtin,hxa,hta,hA.eval h1]) ?_
       unfold NO at h
       split at h
       · rename_i h2;simp only [Option.some.injEq] at h;subst h;simp [Builtin.cap_,run_underlying h2,goInt]
       · cases h
     · cases h
   · rename_i x y hc hx
     split at h
     · rename_i x' y' h1 h2
       have hxa:c.args= #[x,y]:=by rw [←hx]
       refine fU (s:=Builtin.min_ c.argTypes o.type #[x',y']) (by unfold execOp;simp [ho,resolve,hc,invoke,builtin,hxa,hA.eval h1,hA.eval h2]) ?_
       unfold NW at h
       split at h
       · simp only [Option.some.injEq] at h;subst h;simp [Builtin.min_,Builtin.min2]
       · cases h
     · cases h
   · rename_i x y hc hx
     split at h
     · rename_i x' y' h1 h2
       have hxa:c.args= #[x,y]:=by rw [←hx]
       refine fU (s:=Builtin.max_ c.argTypes o.type #[x',y']) (by unfold execOp;simp [ho,resolve,hc,invoke,builtin,hxa,hA.eval h1,hA.eval h2]) ?_
       unfold NF at h
       split at h
       · simp only [Option.some.injEq] at h;subst h;simp [Builtin.max_,Builtin.max2]
       · cases h
     · cases h
   · cases h
 · cases h

end
end Go.Proofs.YtpmhjnhgpplmnaaGreatDoor.Sx
end

section
namespace Go.Proofs.YtpmhjnhgpplmnaaGreatDoor.Sx
open Go
set_option maxRecDepth 8000

variable {df:List Deferred}

inductive Tag where
 | p | ld (k:Kd) | r (k:Kd) | bx | u | ix | sl | sc | cl (ks:List Kd) | rt (ks:List Kd) | nx | cv (ks:List Kd) | cm (ks:List Kd) | cx (k:Kd) | nc

def E1:Kd→(Value→Prop)→Prop
 | .int k,F=>∃n:Int,F (.int k n)
 | .bool,F=>∃b:Bool,F (.bool b)
 | .str,F=>∃s:ByteArray,F (.string s)
 | .ptr,F=>∃b o:Nat,F (.pointer (some ⟨b,o,none⟩))
 | .slice,F=>∃(a:Option Addr) (n c:Nat),F (.slice a n c)
 | .agg,F=>∃cs:Array Value,F (.agg cs)
 | .val,F=>∃v:Value,F v

theorem oU {k:Kd} {F:Value→Prop} (h:E1 k F):∃v,F v:=by
 cases k<;>simp only [E1] at h
 case ptr=>obtain ⟨b,o,h⟩:=h;exact ⟨_,h⟩
 case slice=>obtain ⟨b,o,c,h⟩:=h;exact ⟨_,h⟩
 all_goals (obtain ⟨v,h⟩:=h;exact ⟨_,h⟩)

def Hp:List Kd→(List Value→Prop)→Prop
 | [],F=>F []
 | k::ks,F=>E1 k fun v=>Hp ks fun vs=>F (v::vs)

theorem oP:∀ {ks:List Kd} {F:List Value→Prop},Hp ks F→∃vs,F vs
 | [],_,h=>⟨[],h⟩
 | k::ks,F,h=>by
   obtain ⟨v,h⟩:=oU h
   obtain ⟨vs,h⟩:=oP h
   exact ⟨_,h⟩

def pack:List Value→Value
 | [v]=>v
 | vs=>.tuple vs.toArray

def fF (op:BinOp) (t:TypeId) (x y:Operand) (u v:Value):Sem Value:=do eqGuard op t x y u v;binOp op t u v

def lkp (env:Env):List (Nat×Operand)→Option (List (Nat×Value))
 | []=>some []
 | (i,x)::r=>match lk env x,lkp env r with
   | some v,some vs=>some ((i,v)::vs)
   | _,_=>none

theorem Agr.L5 {env:Env} {N:Nat} {a:Act} (h:Agr env N a df):∀ {xs:List (Nat×Operand)} {vs:List (Nat×Value)},lkp env xs=some vs→xs.map (fun (i,x)=>(i,a.eval x))=vs
 | [],vs,hx=>by simpa [lkp] using hx
 | (i,x)::r,vs,hx=>by
   simp only [lkp] at hx
   split at hx
   · rename_i v us h1 h2
     simp only [Option.some.injEq] at hx
     subst hx
     simp [h.eval h1,h.L5 h2]
   · cases hx

def CK (env:Env) (o:Oper):Option (Sem Value):=
 match o.op with
 | .load t x=>match lk env x with
   | some v=>some (Instr.loadAt t v)
   | none=>none
 | .box e x=>match lk env x with
   | some v=>some (Instr.box e v)
   | none=>none
 | .alloc e=>some (Instr.alloc e true (.tuple #[]))
 | .build t ps=>match lkp env ps.toList with
   | some vs=>some (Instr.build t vs.toArray)
   | none=>none
 | .buildSlice t n ps=>match lkp env ps.toList with
   | some vs=>some (Instr.buildSlice t n vs.toArray)
   | none=>none
 | .convert s d x=>match lk env x with
   | some v=>some (convert s d v)
   | none=>none
 | .makeSlice t l c=>match lk env l,lk env c with
   | some u,some v=>some (Instr.makeSlice t u v)
   | _,_=>none
 | .binOp op t x y _=>match lk env x,lk env y with
   | some u,some v=>some (fF op t x y u v)
   | _,_=>none
 | .index t x i=>match lk env x,lk env i with
   | some u,some v=>some (Instr.index t u v)
   | _,_=>none
 | .field t x f=>match lk env x with
   | some v=>some (Instr.field t v f)
   | none=>none
 | .fieldAddr t x f=>match lk env x with
   | some v=>some (Instr.fieldAt t v f)
   | none=>none
 | .typeAssert x t u ok=>match lk env x with
   | some v=>some (Instr.typeAssert v t u ok)
   | none=>none
 | .makeMap t none=>some (Instr.makeMap t none)
 | .lookup t x i ok=>match lk env x,lk env i with
   | some u,some v=>some (Instr.lookup t u v ok)
   | _,_=>none
 | .mapEntry t x i=>match lk env x,lk env i with
   | some u,some v=>some (Instr.mapEntry t u v)
   | _,_=>none
 | .sliceToArrayPointer t x=>match lk env x with
   | some v=>some (Instr.arrayAt t v)
   | none=>none
 | .call c=>match c.callee,lks env c.args.toList with
   | .builtin .append,some vs=>some (Builtin.append_ c.argTypes o.type vs.toArray)
   | .builtin .copy,some vs=>some (Builtin.copy_ c.argTypes o.type vs.toArray)
   | .builtin .len,some vs=>some (Builtin.len_ c.argTypes o.type vs.toArray)
   | .builtin .min,some vs=>some (Builtin.min_ c.argTypes o.type vs.toArray)
   | .builtin .max,some vs=>some (Builtin.max_ c.argTypes o.type vs.toArray)
   | .builtin .delete,some vs=>some (Builtin.delete_ c.argTypes o.type vs.toArray)
   | .builtin .clear,some vs=>some (Builtin.clear_ c.argTypes o.type vs.toArray)
   | _,_=>none
 | .range t x=>match lk env x with
   | some v=>some (Instr.range t v)
   | none=>none
 | .next x s=>match lk env x with
   | some v=>some (Instr.next v s o.type)
   | none=>none
 | .entry x=>match lk env x with
   | some v=>some (Instr.entry v)
   | none=>none
 | .makeFunc fn f c=>match lks env f.toList,lks env c.toList with
   | some us,some vs=>some (Instr.makeFunc fn us.toArray vs.toArray)
   | _,_=>none
 | _=>none

def MM (env:Env) (o:Oper):Option (Sem Unit):=
 match o.op with
 | .store t x y=>match lk env x,lk env y with
   | some u,some v=>some (Instr.storeAt t u v)
   | _,_=>none
 | .mapUpdate t m k x=>match lk env m,lk env k,lk env x with
   | some u,some v,some y=>some (Instr.mapUpdate t u v y)
   | _,_,_=>none
 | .insert t m k x=>match lk env m,lk env k,lk env x with
   | some u,some v,some y=>some (Instr.mapUpdate t u v y)
   | _,_,_=>none
 | .entryStore t m k x=>match lk env m,lk env k,lk env x with
   | some u,some v,some y=>some (Instr.entryStore t u v y)
   | _,_,_=>none
 | _=>none

def scV (env:Env) (o:Oper):Option (Prop×Value):=
 match o.op with
 | .binOp op _ x y _=>match lk env x,lk env y with
   | some (.int k a),some (.int k' b)=>match op with
     | .shl=>some (0≤b,.int k (gY k a b))
     | .shr=>some (0≤b,.int k (dh k a b))
     | .quo=>if k=k' then some (b≠0,.int k (k.wrap (a.tdiv b))) else none
     | .rem=>if k=k' then some (b≠0,.int k (a.tmod b)) else none
     | _=>none
   | _,_=>none
 | _=>none

def lT (sz:Nat) (a:Option Addr) (l m:Nat) (a':Option Addr):Prop:=(m=l→a'=a)∧(m≠l→a'=a.map (·.add (l*sz)))

def slK (sz:Nat) (a:Option Addr) (cap:Nat) (lo:Option Int) (hi:Int) (mx:Option Int) (K:Value→Prop):Prop:=
 match lo,mx with
 | none,none=>0≤hi∧hi≤(cap:Int)∧K (.slice a hi.toNat cap)
 | some l,none=>0≤l∧l≤hi∧hi≤(cap:Int)∧∀a',lT sz a l.toNat cap a'→K (.slice a' (hi.toNat-l.toNat) (cap-l.toNat))
 | none,some m=>0≤hi∧hi≤m∧m≤(cap:Int)∧K (.slice a hi.toNat m.toNat)
 | some l,some m=>0≤l∧l≤hi∧hi≤m∧m≤(cap:Int)∧∀a',lT sz a l.toNat m.toNat a'→K (.slice a' (hi.toNat-l.toNat) (m.toNat-l.toNat))

inductive Bd where
 | no | int (n:Int) | bad

def bd (env:Env):Option Operand→Bd
 | none=>.no
 | some x=>match lk env x with
   | some (.int _ n)=>.int n
   | _=>.bad

def slE (P:Program) (env:Env) (t:TypeId) (x:Operand) (lo hi mx:Option Operand) (K:Value→Prop):Prop:=
 match bd env lo,bd env hi,bd env mx with
 | .bad,_,_=>False
 | _,.bad,_=>False
 | _,_,.bad=>False
 | l,h,m=>
   let lo':Option Int:=match l with | .int n=>some n | _=>none
   let mx':Option Int:=match m with | .int n=>some n | _=>none
   match P.underlying t,lk env x with
   | some (.slice e),some (.slice a n c)=>match P.info? e,h,m with
     | some inf,.int h',_=>slK inf.size a c lo' h' mx' K
     | some inf,.no,.no=>slK inf.size a c lo' n none K
     | _,_,_=>False
   | some (.array n e),some (.pointer (some ad))=>match P.info? e,h,m with
     | some inf,.int h',_=>slK inf.size (some ad) n lo' h' mx' K
     | some inf,.no,.no=>slK inf.size (some ad) n lo' n none K
     | _,_,_=>False
   | some .string,some (.string s)=>match h,m with
     | .int h',.no=>match lo' with
       | none=>0≤h'∧h'≤(s.size:Int)∧K (.string (s.extract 0 h'.toNat))
       | some l'=>0≤l'∧l'≤h'∧h'≤(s.size:Int)∧K (.string (s.extract l'.toNat h'.toNat))
     | .no,.no=>match lo' with
       | none=>K (.string (s.extract 0 s.size))
       | some l'=>0≤l'∧l'≤(s.size:Int)∧K (.string (s.extract l'.toNat s.size))
     | _,_=>False
   | _,_=>False

def gG (P:Program) (n:Nat):Bool:=match P.funcs[n]? with
 | some fn=>fn.body.isSome&& !(fn.name== "runtime.NumGoroutine")
 | none=>false

def GB (P:Program) (tag:Tag) (o:Oper) (env:Env) (K:Value→Prop):Prop:=
 match tag with
 | .p=>match pv P env o with
   | some v=>K v
   | none=>False
 | .ix=>match o.op with
   | .indexAddr t x i=>match P.underlying t,lk env x,lk env i with
     | some (.slice e),some (.slice a n _),some (.int _ j)=>match P.info? e with
       | some inf=>∃b f,a=some ⟨b,f,none⟩∧0≤j∧j<(n:Int)∧K (.pointer (some ⟨b,f+j.toNat*inf.size,none⟩))
       | none=>False
     | some (.array len e),some (.pointer (some ⟨b,f,none⟩)),some (.int _ j)=>match P.info? e with
       | some inf=>0≤j∧j<(len:Int)∧K (.pointer (some ⟨b,f+j.toNat*inf.size,none⟩))
       | none=>False
     | _,_,_=>False
   | _=>False
 | .sl=>match o.op with
   | .slice t x lo hi mx=>slE P env t x lo hi mx K
   | _=>False
 | .sc=>match scV env o with
   | some (c,v)=>c∧K v
   | none=>False
 | .nc=>match o.op with
   | .nilCheck x=>match lk env x with
     | some v=>∃b f,v=.pointer (some ⟨b,f,none⟩)∧K (.pointer (some ⟨b,f,none⟩))
     | none=>False
   | _=>False
 | _=>False

def GY (P:Program) (tag:Tag) (o:Oper) (env:Env) (w:World) (K:Env→World→Prop):Prop:=
 match tag with
 | .ld k=>match CK env o with
   | some s=>E1 k fun v=>s.run P w=.ok v w∧K (put env o.dst v) w
   | none=>False
 | .r k=>match CK env o with
   | some s=>E1 k fun v=>∃w',s.run P w=.ok v w'∧K (put env o.dst v) w'
   | none=>False
 | .bx=>match CK env o with
   | some s=>∃g w',s.run P w=.ok (.pointer (some ⟨g,0,none⟩)) w'∧K (put env o.dst (.pointer (some ⟨g,0,none⟩))) w'
   | none=>False
 | .u=>match MM env o with
   | some s=>∃w',s.run P w=.ok () w'∧K (put env o.dst undef) w'
   | none=>False
 | .cl ks=>match o.op with
   | .call c=>match c.callee,lks env c.args.toList with
     | .value f,some vs=>match lk env f with
       | some (.func (.func n) ⟨[]⟩ ⟨cb⟩)=>bif gG P n then Calls P n (vs++cb).toArray w fun e w'=>Hp ks fun rs=>e=.returned (pack rs)∧K (put env o.dst (pack rs)) w' else False
       | _=>False
     | _,_=>False
   | _=>False
 | .rt ks=>match CK env o with
   | some s=>Hp ks fun rs=>∃w',s.run P w=.ok (.tuple rs.toArray) w'∧K (put env o.dst (.tuple rs.toArray)) w'
   | none=>False
 | .nx=>match CK env o with
   | some s=>∃(b:Bool) (rest:List Value) (w':World),s.run P w=.ok (.tuple ⟨.bool b::rest⟩) w'∧K (put env o.dst (.tuple ⟨.bool b::rest⟩)) w'
   | none=>False
 | .cv ks=>match o.op with
   | .call c=>match c.callee,lks env c.args.toList with
     | .value f,some vs=>match lk env f with
       | some fv=>∃(n:Nat) (cb:List Value),fv=.func (.func n) ⟨[]⟩ ⟨cb⟩∧gG P n=true∧Calls P n (vs++cb).toArray w fun e w'=>Hp ks fun rs=>e=.returned (pack rs)∧K (put env o.dst (pack rs)) w'
       | none=>False
     | _,_=>False
   | _=>False
 | .cm ks=>match o.op with
   | .call c=>match c.callee,lks env c.args.toList with
     | .value f,some vs=>match lk env f with
       | some fv=>∃(n:Nat) (pre cb:List Value),fv=.func (.func n) ⟨pre⟩ ⟨cb⟩∧gG P n=true∧Calls P n (pre++vs++cb).toArray w fun e w'=>Hp ks fun rs=>e=.returned (pack rs)∧K (put env o.dst (pack rs)) w'
       | none=>False
     | _,_=>False
   | _=>False
 | .cx k=>match o.op with
   | .call c=>match c.callee,lks env c.args.toList with
     | .value f,some vs=>match lk env f with
       | some (.func (.func n) ⟨[]⟩ ⟨[]⟩)=>E1 k fun v=>∃w',(callFunc n vs.toArray).run P w=.ok (.value v) w'∧K (put env o.dst v) w'
       | _=>False
     | _,_=>False
   | _=>False
 | t=>GB P t o env fun v=>K (put env o.dst v) w

def vH (ops:Array Oper) (env:Env) (o:Oper):Option Bool:=
 match o.guard with
 | none=>some true
 | some (j,want)=>match ops[j]? with
   | some oj=>match oj.dst with
     | some d=>match look env d with
       | some (.bool b)=>some (b==want)
       | some _=>some false
       | none=>none
     | none=>some false
   | none=>some false

theorem dS {ops:Array Oper} {env:Env} {N:Nat} {a:Act} (hA:Agr env N a df) {o:Oper} {b:Bool} (h:vH ops env o=some b):Region.wanted o (yielded ops a.tmps)=b:=by
 unfold vH at h
 unfold Region.wanted
 split at h
 · rename_i hg;simp only [hg];simpa using h
 · rename_i j want hg
   simp only [hg]
   split at h
   · rename_i oj hj
     split at h
     · rename_i d hd
       split at h
       · rename_i b' hb
         have:=hA.at_ d _ hb
         simp only [yielded,hj,hd,Option.bind_some,this]
         simp only [Option.some.injEq] at h
         rw [←h];cases b'<;>cases want<;>rfl
       · rename_i v hv hb
         have:=hA.at_ d _ hb
         simp only [Option.some.injEq] at h
         subst h
         simp only [yielded,hj,hd,Option.bind_some,this]
         split
         · rename_i b'' heq
           simp only [Option.some.injEq] at heq
           exact absurd heq (hv b'')
         · rfl
       · cases h
     · rename_i hd
       simp only [Option.some.injEq] at h
       subst h
       simp [yielded,hj,hd]
   · rename_i hj
     simp only [Option.some.injEq] at h
     subst h
     simp [yielded,hj]

section
variable {P:Program} {env:Env} {N:Nat} {a:Act} {w:World}

theorem mapA {xs:Array Operand} {vs:List Value} (hA:Agr env N a df) (h:lks env xs.toList=some vs):xs.map a.eval=vs.toArray:=by
 rw [←hA.LY h,←Array.toList_map]

theorem OV {xs:Array (Nat×Operand)} {vs:List (Nat×Value)} (hA:Agr env N a df) (h:lkp env xs.toList=some vs):(xs.map fun (i,x)=>(i,a.eval x))=vs.toArray:=by
 rw [←hA.L5 h,←Array.toList_map]

theorem lS {o:Oper} {s:Sem Value} (hA:Agr env N a df) (h:CK env o=some s):execOp a.eval o=(do pure (.value (←s))):=by
 unfold CK at h
 split at h
 all_goals first | (cases h;done) | (rename_i ho;try (split at h)<;>try (cases h;done))
 all_goals try (simp only [Option.some.injEq] at h;subst h)
 all_goals unfold execOp
 all_goals simp only [ho]
 all_goals first
   | (rename_i h1;rw [hA.eval h1];done)
   | (rename_i h1;rw [OV hA h1];done)
   | (rename_i h1 h2;rw [hA.eval h1,hA.eval h2];done)
   | (rename_i h1 h2;rw [hA.eval h1,hA.eval h2];rfl)
   | (rename_i h1 h2;rw [mapA hA h1,mapA hA h2];done)
   | (rename_i h1 h2;simp only [resolve,h1,mapA hA h2,invoke,builtin,pure_bind];done)
   | rfl

theorem JN {o:Oper} {s:Sem Unit} (hA:Agr env N a df) (h:MM env o=some s):execOp a.eval o=(do s;pure .skip):=by
 unfold MM at h
 split at h
 all_goals first | (cases h;done) | (rename_i ho;try (split at h)<;>try (cases h;done))
 all_goals try (simp only [Option.some.injEq] at h;subst h)
 all_goals unfold execOp
 all_goals simp only [ho]
 all_goals first
   | (rename_i h1 h2;rw [hA.eval h1,hA.eval h2];done)
   | (rename_i h1 h2 h3;rw [hA.eval h1,hA.eval h2,hA.eval h3];done)

theorem jh {o:Oper} {v:Value} {w':World} {K:Act→World→Prop} {Q:Exit→Act→World→Prop} (hr:(execOp a.eval o).run P w=.ok (.value v) w') (h:K (a.put o.dst v) w'):o.wp P a w K Q:=by
 unfold Oper.wp;rw [hr];exact h

theorem wA {sz:Nat} {ad:Option Addr} {cap len:Nat} {lo:Option Operand} {lo':Option Int} {hi mx:Option Operand} {h':Int} {mx':Option Int} {K:Value→Prop} (isS:Bool)
   (hlo:(lo=none∧lo'=none)∨∃x k n,lo=some x∧lo'=some n∧a.eval x=.int k n)
   (hhi:(hi=none∧mx=none∧h'=len)∨∃x k,hi=some x∧a.eval x=.int k h')
   (hmx:(mx=none∧mx'=none)∨∃x k n,mx=some x∧mx'=some n∧a.eval x=.int k n)
   (h:slK sz ad cap lo' h' mx' K):
   ∃l hh m:Nat,(∀w:World,(Instr.sliceBounds isS len cap (lo.map a.eval) (hi.map a.eval) (mx.map a.eval)).run P w=.ok (l,hh,m) w)∧
     K (.slice (if m=l then ad else ad.map (·.add (l*sz))) (hh-l) (m-l)):=by
 have sb:∀(x:Operand) (k:IntKind) (n:Int) (y:Nat) (c:BoundsCode),a.eval x=.int k n→0≤n→n≤(y:Int)→∀w:World,(Instr.sliceBound (a.eval x) y c).run P w=.ok n.toNat w:=by
   intro x k n y c he h0 h1 w;simp [Instr.sliceBound,he,asIntOf,h0,h1]
 have zero:∀(m hh:Nat),K (.slice ad hh m)→K (.slice (if m=0 then ad else ad.map (·.add (0*sz))) (hh-0) (m-0)):=by
   intro m hh hk
   have:(if m=0 then ad else ad.map (·.add (0*sz)))=ad:=by
     split
     · rfl
     · cases ad<;>simp [Addr.add]
   rw [this];exact hk
 have sub:∀(l m hh:Nat),(∀a',lT sz ad l m a'→K (.slice a' (hh-l) (m-l)))→K (.slice (if m=l then ad else ad.map (·.add (l*sz))) (hh-l) (m-l)):=by
   intro l m hh hk
   refine hk _ ⟨fun e=>by simp [e],fun e=>by simp [e]⟩
 rcases hmx with ⟨rfl,rfl⟩ | ⟨xm,km,nm,rfl,rfl,hm⟩
 · rcases hhi with ⟨rfl,_,rfl⟩ | ⟨xh,kh,rfl,hh⟩
   · rcases hlo with ⟨rfl,rfl⟩ | ⟨xl,kl,nl,rfl,rfl,hl⟩
     · simp only [slK] at h
       exact ⟨0,len,cap,fun w=>by simp [Instr.sliceBounds],zero _ _ (by simpa using h.2.2)⟩
     · simp only [slK] at h
       obtain ⟨h0,h1,h2,h3⟩:=h
       refine ⟨nl.toNat,len,cap,?_,sub _ _ _ (by simpa using h3)⟩
       intro w;simp [Instr.sliceBounds,sb xl kl nl len _ hl h0 h1]
   · rcases hlo with ⟨rfl,rfl⟩ | ⟨xl,kl,nl,rfl,rfl,hl⟩
     · simp only [slK] at h
       obtain ⟨h0,h1,h3⟩:=h
       exact ⟨0,h'.toNat,cap,fun w=>by cases isS<;>simp [Instr.sliceBounds,sb xh kh h' cap _ hh h0 h1],zero _ _ h3⟩
     · simp only [slK] at h
       obtain ⟨h0,h1,h2,h3⟩:=h
       refine ⟨nl.toNat,h'.toNat,cap,?_,sub _ _ _ h3⟩
       intro w;cases isS<;>simp [Instr.sliceBounds,sb xl kl nl h'.toNat _ hl h0 (by omega),sb xh kh h' cap _ hh (by omega) h2]
 · rcases hhi with ⟨_,hc,_⟩ | ⟨xh,kh,rfl,hh⟩
   · cases hc
   · rcases hlo with ⟨rfl,rfl⟩ | ⟨xl,kl,nl,rfl,rfl,hl⟩
     · simp only [slK] at h
       obtain ⟨h0,h1,h2,h3⟩:=h
       refine ⟨0,h'.toNat,nm.toNat,?_,zero _ _ h3⟩
       intro w;cases isS<;>simp [Instr.sliceBounds,sb xm km nm cap _ hm (by omega) h2,sb xh kh h' nm.toNat _ hh h0 (by omega)]
     · simp only [slK] at h
       obtain ⟨h0,h1,h2,h4,h3⟩:=h
       refine ⟨nl.toNat,h'.toNat,nm.toNat,?_,sub _ _ _ h3⟩
       intro w;cases isS<;>simp [Instr.sliceBounds,sb xm km nm cap _ hm (by omega) h4,sb xh kh h' nm.toNat _ hh (by omega) (by omega),sb xl kl nl h'.toNat _ hl h0 (by omega)]

theorem vL {x:Option Operand} (h:bd env x=.no):x=none:=by
 unfold bd at h;split at h
 · rfl
 · split at h<;>cases h

theorem A4 {x:Option Operand} {n:Int} (hA:Agr env N a df) (h:bd env x=.int n):∃y k,x=some y∧a.eval y=.int k n:=by
 unfold bd at h;split at h
 · cases h
 · rename_i y
   split at h
   · rename_i k m hm
     simp only [Bd.int.injEq] at h
     subst h
     exact ⟨y,k,rfl,hA.eval hm⟩
   · cases h

theorem Nx {x:Option Operand} (hA:Agr env N a df) (hb:bd env x≠ .bad):(x=none∧(match bd env x with | .int n=>some n | _=>none:Option Int)=none)∨∃y k n,x=some y∧(match bd env x with | .int n=>some n | _=>none:Option Int)=some n∧a.eval y=.int k n:=by
 cases h:bd env x with
 | no=>exact .inl ⟨vL h,rfl⟩
 | int n=>obtain ⟨y,k,h1,h2⟩:=A4 hA h;exact .inr ⟨y,k,n,h1,rfl,h2⟩
 | bad=>exact absurd h hb

theorem LO {t:TypeId} {x:Operand} {lo hi mx:Option Operand} {K:Value→Prop} (hA:Agr env N a df) (h:slE P env t x lo hi mx K):
   ∃v,(∀w:World,(Instr.sliceAt t (a.eval x) (lo.map a.eval) (hi.map a.eval) (mx.map a.eval)).run P w=.ok v w)∧K v:=by
 unfold slE at h
 split at h
 · exact h.elim
 · exact h.elim
 · exact h.elim
 · rename_i nl nh nm
   have L:=Nx (x:=lo) hA (fun e=>by simp_all)
   have M:=Nx (x:=mx) hA (fun e=>by simp_all)
   simp only at h
   generalize hlo:(match bd env lo with | .int n=>some n | _=>none:Option Int)=lo' at h L
   generalize hmx:(match bd env mx with | .int n=>some n | _=>none:Option Int)=mx' at h M
   split at h
   · rename_i e ad n c hu hx
     have hx':=hA.eval hx
     split at h
     · rename_i inf hh hi' hb
       obtain ⟨y,k,hy,he⟩:=A4 hA hb
       obtain ⟨l,h2,m,hr,hk⟩:=wA (P:=P) (len:=n) (a:=a) true L (.inr ⟨y,k,hy,he⟩) M h
       refine ⟨_,?_,hk⟩
       intro w;simp [Instr.sliceAt,Instr.slice,run_underlying hu,hx',hr,sizeOf,typeInfo,hi']
     · rename_i inf hi' hb hb'
       have hn:=vL hb
       have hn':=vL hb'
       rw [hn'] at hmx
       subst hmx
       obtain ⟨l,h2,m,hr,hk⟩:=wA (P:=P) (len:=n) (a:=a) (hi:=hi) (mx:=mx) true L (.inl ⟨hn,hn',rfl⟩) (.inl ⟨hn',rfl⟩) h
       refine ⟨_,?_,hk⟩
       intro w;simp [Instr.sliceAt,Instr.slice,run_underlying hu,hx',hr,sizeOf,typeInfo,hi']
     · exact h.elim
   · rename_i n e ad hu hx
     have hx':=hA.eval hx
     split at h
     · rename_i inf hh hi' hb
       obtain ⟨y,k,hy,he⟩:=A4 hA hb
       obtain ⟨l,h2,m,hr,hk⟩:=wA (P:=P) (len:=n) (a:=a) false L (.inr ⟨y,k,hy,he⟩) M h
       refine ⟨_,?_,hk⟩
       intro w;simp [Instr.sliceAt,run_underlying hu,hx',hr,sizeOf,typeInfo,hi',Instr.sureAddr]
       split<;>rfl
     · rename_i inf hi' hb hb'
       have hn:=vL hb
       have hn':=vL hb'
       rw [hn'] at hmx
       subst hmx
       obtain ⟨l,h2,m,hr,hk⟩:=wA (P:=P) (len:=n) (a:=a) (hi:=hi) (mx:=mx) false L (.inl ⟨hn,hn',rfl⟩) (.inl ⟨hn',rfl⟩) h
       refine ⟨_,?_,hk⟩
       intro w;simp [Instr.sliceAt,run_underlying hu,hx',hr,sizeOf,typeInfo,hi',Instr.sureAddr]
       split<;>rfl
     · exact h.elim
   · rename_i str hu hx
     have hx':=hA.eval hx
     have sb:∀(x:Operand) (k:IntKind) (n:Int) (y:Nat) (c:BoundsCode),a.eval x=.int k n→0≤n→n≤(y:Int)→∀w:World,(Instr.sliceBound (a.eval x) y c).run P w=.ok n.toNat w:=by
       intro x k n y c he h0 h1 w;simp [Instr.sliceBound,he,asIntOf,h0,h1]
     split at h
     · rename_i hh hb hb'
       obtain ⟨y,k,hy,he⟩:=A4 hA hb
       have hn':=vL hb'
       subst hy;subst hn'
       rcases L with ⟨rfl,hl⟩ | ⟨z,k2,n2,rfl,hl,he2⟩
       · rw [hl] at h
         obtain ⟨h0,h1,h2⟩:=h
         refine ⟨_,?_,h2⟩
         intro w;simp [Instr.sliceAt,Instr.slice,run_underlying hu,hx',Instr.sliceBounds,sb y k hh _ _ he h0 h1]
       · rw [hl] at h
         obtain ⟨h0,h1,h2,h3⟩:=h
         refine ⟨_,?_,h3⟩
         intro w;simp [Instr.sliceAt,Instr.slice,run_underlying hu,hx',Instr.sliceBounds,sb y k hh _ _ he (by omega) h2,sb z k2 n2 hh.toNat _ he2 h0 (by omega)]
     · rename_i hb hb'
       have hn:=vL hb
       have hn':=vL hb'
       subst hn;subst hn'
       rcases L with ⟨rfl,hl⟩ | ⟨z,k2,n2,rfl,hl,he2⟩
       · rw [hl] at h
         refine ⟨_,?_,h⟩
         intro w;simp [Instr.sliceAt,Instr.slice,run_underlying hu,hx',Instr.sliceBounds]
       · rw [hl] at h
         obtain ⟨h0,h1,h3⟩:=h
         refine ⟨_,?_,h3⟩
         intro w;simp [Instr.sliceAt,Instr.slice,run_underlying hu,hx',Instr.sliceBounds,sb z k2 n2 str.size _ he2 h0 h1]
     · exact h.elim
   · exact h.elim

theorem Lz {o:Oper} {c:Prop} {v:Value} (hA:Agr env N a df) (h:scV env o=some (c,v)) (hc:c):(execOp a.eval o).run P w=.ok (.value v) w:=by
 unfold scV at h
 split at h
 · rename_i op t x y yt ho
   split at h
   · rename_i k p k' q h1 h2
     refine fU (s:=do eqGuard op t x y (a.eval x) (a.eval y);binOp op t (a.eval x) (a.eval y)) (by unfold execOp;simp [ho]) ?_
     rw [hA.eval h1,hA.eval h2]
     have hg:(eqGuard op t x y (.int k p) (.int k' q)).run P w=.ok () w:=by unfold eqGuard;cases op<;>rfl
     simp only [Sem.run_bind,hg,Result.andThen_ok]
     split at h
     · simp only [Option.some.injEq,Prod.mk.injEq] at h;obtain ⟨rfl,rfl⟩:=h
       have:¬q<0:=by omega
       simp [binOp,Op.shift,this,gY]
     · simp only [Option.some.injEq,Prod.mk.injEq] at h;obtain ⟨rfl,rfl⟩:=h
       have:¬q<0:=by omega
       simp [binOp,Op.shift,this,dh]
     · split at h
       · rename_i hk;subst hk
         simp only [Option.some.injEq,Prod.mk.injEq] at h;obtain ⟨rfl,rfl⟩:=h
         simp [binOp,Op.intDiv,hc]
       · cases h
     · split at h
       · rename_i hk;subst hk
         simp only [Option.some.injEq,Prod.mk.injEq] at h;obtain ⟨rfl,rfl⟩:=h
         simp [binOp,Op.intDiv,hc]
       · cases h
     · cases h
   · cases h
 · cases h

theorem zZ {tag:Tag} {o:Oper} {K:Value→Prop} (hA:Agr env N a df) (h:GB P tag o env K):∃v,(∀w,(execOp a.eval o).run P w=.ok (.value v) w)∧K v:=by
 unfold GB at h
 split at h
 · split at h
   · rename_i v hv;exact ⟨v,fun w=>JF hA hv,h⟩
   · exact h.elim
 · split at h
   · rename_i t x i ho
     split at h
     · rename_i e ad n c k j h1 h2 h3
       split at h
       · rename_i inf hi
         obtain ⟨b,f,rfl,h0,hl,hk⟩:=h
         refine ⟨_,fun w=>fU (s:=Instr.indexAt t (a.eval x) (a.eval i)) (by unfold execOp;simp [ho]) ?_,hk⟩
         rw [hA.eval h2,hA.eval h3]
         simp [Instr.indexAt,asIntOf,run_underlying h1,h0,hl,sizeOf,typeInfo,hi,Addr.add_lit]
       · exact h.elim
     · rename_i len e b f k j h1 h2 h3
       split at h
       · rename_i inf hi
         obtain ⟨h0,hl,hk⟩:=h
         refine ⟨_,fun w=>fU (s:=Instr.indexAt t (a.eval x) (a.eval i)) (by unfold execOp;simp [ho]) ?_,hk⟩
         rw [hA.eval h2,hA.eval h3]
         simp [Instr.indexAt,asIntOf,run_underlying h1,Instr.sureAddr,h0,hl,sizeOf,typeInfo,hi,Addr.add_lit]
       · exact h.elim
     · exact h.elim
   · exact h.elim
 · split at h
   · rename_i t x lo hi mx ho
     obtain ⟨v,hr,hk⟩:=LO hA h
     exact ⟨v,fun w=>fU (s:=Instr.sliceAt t (a.eval x) (lo.map a.eval) (hi.map a.eval) (mx.map a.eval)) (by unfold execOp;simp [ho]) (hr w),hk⟩
   · exact h.elim
 · split at h
   · rename_i c v hv
     exact ⟨v,fun w=>Lz hA hv h.1,h.2⟩
   · exact h.elim
 · split at h
   · rename_i x ho
     split at h
     · rename_i v h1
       obtain ⟨b,f,rfl,hk⟩:=h
       exact ⟨_,fun w=>(by unfold execOp;simp [ho,hA.eval h1]),hk⟩
     · exact h.elim
   · exact h.elim
 · exact h.elim

theorem mO {n:Nat} (hg:gG P n=true) (args:Array Value) (w:World):(callFunc n args).run P w=.ok (.enter n args) w:=by
 unfold gG at hg
 split at hg
 · rename_i fn hfn
   simp only [Bool.and_eq_true,Bool.not_eq_true'] at hg
   simp only [beq_eq_false_iff_ne,ne_eq] at hg
   have hb:¬fn.body=none:=fun e=>by simp [e] at hg
   simp [callFunc,hfn,hg.2,hb]
 · cases hg

theorem En {tag:Tag} {o:Oper} {K:Env→World→Prop} {K':Act→World→Prop} {Q:Exit→Act→World→Prop} (hA:Agr env N a df) (hd:dOk N o.dst=true)
   (h:GY P tag o env w K) (hK:∀env' v w',Agr env' N (a.put o.dst v) df→K env' w'→K' (a.put o.dst v) w'):o.wp P a w K' Q:=by
 unfold GY at h
 split at h
 · -- ld
   split at h
   · rename_i s hs
     obtain ⟨v,hr,hk⟩:=oU h
     exact jh (fU (lS hA hs) hr) (hK _ _ _ (hA.put hd v) hk)
   · exact h.elim
 · -- r
   split at h
   · rename_i s hs
     obtain ⟨v,w',hr,hk⟩:=oU h
     exact jh (fU (lS hA hs) hr) (hK _ _ _ (hA.put hd v) hk)
   · exact h.elim
 · -- bx
   split at h
   · rename_i s hs
     obtain ⟨g,w',hr,hk⟩:=h
     exact jh (fU (lS hA hs) hr) (hK _ _ _ (hA.put hd _) hk)
   · exact h.elim
 · -- u
   split at h
   · rename_i s hs
     obtain ⟨w',hr,hk⟩:=h
     unfold Oper.wp
     rw [JN hA hs]
     simp only [Sem.run_bind,hr,Result.andThen_ok]
     exact hK _ _ _ (hA.put hd _) hk
   · exact h.elim
 · -- cl
   split at h
   · rename_i c ho
     split at h
     · rename_i f vs hc hvs
       split at h
       · rename_i n cb hf
         cases hg:gG P n with
         | false=>rw [hg] at h;exact h.elim
         | true=>
           rw [hg] at h
           simp only [cond_true] at h
           have hrun:(execOp a.eval o).run P w=.ok (.enter n (vs++cb).toArray) w:=by
             unfold execOp
             simp only [ho,resolve,hc,mapA hA hvs,hA.eval hf,Deferred.ofValue,pure_bind,invoke]
             simpa using mO hg (vs++cb).toArray w
           unfold Oper.wp
           rw [hrun]
           refine Calls.mono h fun e w' he=>?_
           obtain ⟨rs,rfl,hk⟩:=oP he
           exact hK _ _ _ (hA.put hd _) hk
       · exact h.elim
     · exact h.elim
   · exact h.elim
 · -- rt
   split at h
   · rename_i s hs
     obtain ⟨rs,w',hr,hk⟩:=oP h
     exact jh (fU (lS hA hs) hr) (hK _ _ _ (hA.put hd _) hk)
   · exact h.elim
 · -- nx
   split at h
   · rename_i s hs
     obtain ⟨b,rest,w',hr,hk⟩:=h
     exact jh (fU (lS hA hs) hr) (hK _ _ _ (hA.put hd _) hk)
   · exact h.elim
 · -- cv
   split at h
   · rename_i c ho
     split at h
     · rename_i f vs hc hvs
       split at h
       · rename_i fv hf
         obtain ⟨n,cb,rfl,hg,h⟩:=h
         have hrun:(execOp a.eval o).run P w=.ok (.enter n (vs++cb).toArray) w:=by
           unfold execOp
           simp only [ho,resolve,hc,mapA hA hvs,hA.eval hf,Deferred.ofValue,pure_bind,invoke]
           simpa using mO hg (vs++cb).toArray w
         unfold Oper.wp
         rw [hrun]
         refine Calls.mono h fun e w' he=>?_
         obtain ⟨rs,rfl,hk⟩:=oP he
         exact hK _ _ _ (hA.put hd _) hk
       · exact h.elim
     · exact h.elim
   · exact h.elim
 · -- cm
   split at h
   · rename_i c ho
     split at h
     · rename_i f vs hc hvs
       split at h
       · rename_i fv hf
         obtain ⟨n,pre,cb,rfl,hg,h⟩:=h
         have hrun:(execOp a.eval o).run P w=.ok (.enter n (pre++vs++cb).toArray) w:=by
           unfold execOp
           simp only [ho,resolve,hc,mapA hA hvs,hA.eval hf,Deferred.ofValue,pure_bind,invoke]
           simpa using mO hg (pre++vs++cb).toArray w
         unfold Oper.wp
         rw [hrun]
         refine Calls.mono h fun e w' he=>?_
         obtain ⟨rs,rfl,hk⟩:=oP he
         exact hK _ _ _ (hA.put hd _) hk
       · exact h.elim
     · exact h.elim
   · exact h.elim
 · -- cx
   split at h
   · rename_i c ho
     split at h
     · rename_i f vs hc hvs
       split at h
       · rename_i n hf
         obtain ⟨v,w',hr,hk⟩:=oU h
         have hrun:(execOp a.eval o).run P w=.ok (.value v) w':=by
           unfold execOp
           simp only [ho,resolve,hc,mapA hA hvs,hA.eval hf,Deferred.ofValue,pure_bind,invoke]
           simpa using hr
         exact jh hrun (hK _ _ _ (hA.put hd _) hk)
       · exact h.elim
     · exact h.elim
   · exact h.elim
 · obtain ⟨v,hr,hk⟩:=zZ hA h
   exact jh (hr w) (hK _ _ _ (hA.put hd v) hk)

end
end Go.Proofs.YtpmhjnhgpplmnaaGreatDoor.Sx
end

section
namespace Go.Proofs.YtpmhjnhgpplmnaaGreatDoor.Sx
open Go
set_option maxRecDepth 8000

variable {df:List Deferred}

def isIn (D:List Nat) (s:Nat):Bool:=D.any fun t=>Nat.beq t s
theorem mg {D:List Nat} {s:Nat} (h:isIn D s=true):s∈D:=by
 obtain ⟨t,ht,he⟩:=List.any_eq_true.1 h
 rw [←Nat.eq_of_beq_eq_true he];exact ht

def eR (D:List Nat) (a a':Act):Prop:=∀s,s∉D→a'.tmps[s]?=a.tmps[s]?
theorem eR.refl (D:List Nat) (a:Act):eR D a a:=fun _ _=>rfl
theorem eR.trans {D:List Nat} {a b c:Act} (h:eR D a b) (k:eR D b c):eR D a c:=fun s hs=>(k s hs).trans (h s hs)

def dIn (D:List Nat):Option Tmp→Bool
 | some s=>isIn D s
 | none=>true

theorem eR.put {D:List Nat} {a:Act} {d:Option Tmp} (h:dIn D d=true) (v:Value):eR D a (a.put d v):=by
 intro s hs
 cases d with
 | none=>rfl
 | some t=>
   have:=mg h
   have hne:t≠s:=fun e=>hs (e ▸ this)
   simp [Act.put,hne]

def cC (D:List Nat) (N:Nat):Code→Bool
 | .region _ ops _=>ops.toList.all fun o=>dIn D o.dst&&dOk N o.dst
 | .seq a b=>cC D N a&&cC D N b
 | .cond _ a b=>cC D N a&&cC D N b
 | .block _ a=>cC D N a
 | .loop a=>cC D N a
 | .skip | .exit _ | .ret | .label _=>true
 | _=>false

def CW (P:Program) (ops:Array Oper):List Oper→Env→Option Env
 | [],env=>some env
 | o::l,env=>match vH ops env o with
   | some true=>match pv P env o with
     | some v=>CW P ops l (put env o.dst v)
     | none=>none
   | _=>none

def CX (ops:Array Oper):List Oper→Env→Option Env
 | [],env=>some env
 | o::l,env=>match vH ops env o with
   | some false=>CX ops l (put env o.dst undef)
   | _=>none

def apV (b want q q2:Bool):Bool:=match want,q2 with
 | true,false=>b&&q
 | false,true=>b||q
 | _,_=>bif b==want then q else q2

theorem La (want q q2:Bool):apV want want q q2=q:=by cases want<;>cases q<;>cases q2<;>rfl
theorem Mu (want q q2:Bool):apV (!want) want q q2=q2:=by cases want<;>cases q<;>cases q2<;>rfl

def jZ:List Oper→List Nat
 | []=>[]
 | o::l=>match o.dst with
   | some s=>s::jZ l
   | none=>jZ l

def apE (P:Program) (ops:Array Oper) (n:Nat) (l:List Oper) (env:Env):Option Env:=
 match l.take n,l.drop n with
 | g::gs,pk::_=>match g.guard,pk.guard,pk.op with
   | some (_,want),none,.pick (.tmp d) x y=>match look env d with
     | some (.bool b)=>match CW P ops (g::gs) ((d,some (.bool want))::env),CX ops (g::gs) ((d,some (.bool !want))::env) with
       | some e1,some e2=>match lk e1 (.tmp d),lk e2 (.tmp d),lk e1 (bif want then x else y),lk e2 (bif want then y else x) with
         | some (.bool c1),some (.bool c2),some (.bool q),some (.bool q2)=>bif (c1==want)&&(c2== !want) then some (put (forget (jZ (g::gs)) env) pk.dst (.bool (apV b want q q2))) else none
         | _,_,_,_=>none
       | _,_=>none
     | _=>none
   | _,_,_=>none
 | _,_=>none

def KM (P:Program) (ops:Array Oper) (t:Tag) (l:List Oper) (env:Env) (w:World) (C:List Oper→Env→World→Prop):Prop:=
 match l with
 | []=>False
 | o::l'=>match vH ops env o with
   | some true=>GY P t o env w fun env' w'=>C l' env' w'
   | some false=>C l' (put env o.dst undef) w
   | none=>False

inductive TL where
 | nil | op (t:Tag) (r:TL) | ap (n:Nat) (r:TL) | sp (s:Nat) (a b:TL)
def TL.pp:Nat→TL→TL
 | 0,r=>r
 | n+1,r=>.op .p (TL.pp n r)

def qu (P:Program) (ops:Array Oper):TL→List Oper→Env→World→(Env→World→Prop)→Prop
 | .nil,l,env,w,K=>match l with
   | []=>K env w
   | _::_=>False
 | .sp s ts us,l,env,w,K=>match look env s with
   | some (.bool b)=>(b=true→qu P ops ts l ((s,some (.bool true))::env) w K)∧(b=false→qu P ops us l ((s,some (.bool false))::env) w K)
   | _=>False
 | .ap n ts,l,env,w,K=>match apE P ops n l env with
   | some env'=>qu P ops ts (l.drop (n+1)) env' w K
   | none=>False
 | .op t ts,l,env,w,K=>KM P ops t l env w fun l' env' w'=>qu P ops ts l' env' w' K

section
variable {P:Program} {env:Env} {N:Nat} {a:Act} {w:World} {ops:Array Oper} {Q:Exit→Act→World→Prop}

theorem Agr.IG {s:Nat} {v:Value} (hA:Agr env N a df) (h:look env s=some v):Agr ((s,some v)::env) N a df:=
 ⟨hA.defers,hA.size,fun t u ht=>by
   simp only [look] at ht
   cases hb:Nat.beq s t with
   | true=>rw [hb] at ht;simp only [cond_true,Option.some.injEq] at ht;rw [←Nat.eq_of_beq_eq_true hb,←ht];exact hA.at_ s v h
   | false=>rw [hb] at ht;exact hA.at_ t u ht⟩

theorem Bp {o:Oper} {rest:List Oper} {v:Value} (hw:Region.wanted o (yielded ops a.tmps)=true) (hr:(execOp a.eval o).run P w=.ok (.value v) w)
   (h:wpList P ops Q rest (a.put o.dst v) w):wpList P ops Q (o::rest) a w:=by
 refine wpList_step fun K hK=>?_
 rw [if_pos hw]
 exact jh hr (hK _ _ h)

theorem F2 {o:Oper} {rest:List Oper} (hw:Region.wanted o (yielded ops a.tmps)=false)
   (h:wpList P ops Q rest (a.put o.dst undef) w):wpList P ops Q (o::rest) a w:=by
 refine wpList_step fun K hK=>?_
 rw [if_neg (by rw [hw];simp)]
 exact hK _ _ h

theorem Eo {rest:List Oper} :∀(gs:List Oper) {env e1:Env} {a:Act},Agr env N a df→(∀o∈gs,dOk N o.dst=true)→CW P ops gs env=some e1→
   (∀a',Agr e1 N a' df→eR (jZ gs) a a'→wpList P ops Q rest a' w)→wpList P ops Q (gs++rest) a w
 | [],env,e1,a,hA,_,h,hK=>by
   simp only [CW,Option.some.injEq] at h
   subst h
   exact hK a hA (eR.refl _ _)
 | o::l,env,e1,a,hA,hd,h,hK=>by
   simp only [CW] at h
   split at h
   · rename_i hw
     split at h
     · rename_i v hv
       refine Bp (dS hA hw) (JF hA hv) ?_
       refine Eo l (hA.put (hd o (by simp)) v) (fun o' ho'=>hd o' (by simp [ho'])) h fun a' hA' hS=>hK a' hA' ?_
       intro s hs
       have h1:s∉jZ l:=fun hm=>hs (by simp only [jZ];split<;>simp [hm])
       rw [hS s h1]
       cases hdst:o.dst with
       | none=>rfl
       | some t=>
         have hne:t≠s:=fun e=>hs (by simp [jZ,hdst,e])
         simp [Act.put,hne]
     · cases h
   · cases h

theorem C0 {rest:List Oper} :∀(gs:List Oper) {env e1:Env} {a:Act},Agr env N a df→(∀o∈gs,dOk N o.dst=true)→CX ops gs env=some e1→
   (∀a',Agr e1 N a' df→eR (jZ gs) a a'→wpList P ops Q rest a' w)→wpList P ops Q (gs++rest) a w
 | [],env,e1,a,hA,_,h,hK=>by
   simp only [CX,Option.some.injEq] at h
   subst h
   exact hK a hA (eR.refl _ _)
 | o::l,env,e1,a,hA,hd,h,hK=>by
   simp only [CX] at h
   split at h
   · rename_i hw
     refine F2 (dS hA hw) ?_
     refine C0 l (hA.put (hd o (by simp)) undef) (fun o' ho'=>hd o' (by simp [ho'])) h fun a' hA' hS=>hK a' hA' ?_
     intro s hs
     have h1:s∉jZ l:=fun hm=>hs (by simp only [jZ];split<;>simp [hm])
     rw [hS s h1]
     cases hdst:o.dst with
     | none=>rfl
     | some t=>
       have hne:t≠s:=fun e=>hs (by simp [jZ,hdst,e])
       simp [Act.put,hne]
   · cases h

theorem Agr.same {D:List Nat} {a':Act} (hA:Agr env N a df) (hd:a'.defers=df) (hs:a'.tmps.size=N) (h:eR D a a'):Agr (Sx.forget D env) N a' df:=
 ⟨hd,hs,fun s v hv=>by
   obtain ⟨h1,h2⟩:=gO hv
   rw [h s h2];exact hA.at_ s v h1⟩

theorem Mq {n:Nat} {l:List Oper} {env':Env} (hA:Agr env N a df) (hd:∀o∈l,dOk N o.dst=true) (h:apE P ops n l env=some env')
   (hK:∀a',Agr env' N a' df→eR (jZ l) a a'→wpList P ops Q (l.drop (n+1)) a' w):wpList P ops Q l a w:=by
 unfold apE at h
 split at h
 case h_2=>cases h
 rename_i g gs pk rst hl1 hl2
 split at h
 case h_2=>cases h
 rename_i jg want d x y hg hpg hpo
 split at h
 case h_2=>cases h
 rename_i b hb
 split at h
 case h_2=>cases h
 rename_i e1 e2 hp hs
 split at h
 case h_2=>cases h
 rename_i c1 c2 q q2 hc1 hc2 hq hq2
 cases hcc:((c1==want)&&(c2== !want)) with
 | false=>rw [hcc] at h;cases h
 | true=>
   rw [hcc] at h
   simp only [cond_true,Option.some.injEq] at h
   subst h
   have hrst:l.drop (n+1)=rst:=by rw [←List.drop_drop,hl2];rfl
   rw [hrst] at hK
   simp only [Bool.and_eq_true,beq_iff_eq] at hcc
   obtain ⟨rfl,rfl⟩:=hcc
   have hl:l=(g::gs)++(pk::rst):=by rw [←hl1,←hl2,List.take_append_drop]
   have hdd:∀(l1 l2:List Oper),∀s,s∉jZ (l1++l2)→s∉jZ l1∧s∉jZ l2:=by
     intro l1 l2 s
     induction l1 with
     | nil=>intro h;exact ⟨by simp [jZ],h⟩
     | cons o l1 ih=>
       intro h
       simp only [List.cons_append,jZ] at h ⊢
       split at h
       · simp only [List.mem_cons,not_or] at h ⊢
         exact ⟨⟨h.1,(ih h.2).1⟩,(ih h.2).2⟩
       · exact ih h
   have hdg:∀o∈g::gs,dOk N o.dst=true:=fun o ho=>hd o (by rw [hl];exact List.mem_append_left _ ho)
   have hdp:dOk N pk.dst=true:=hd pk (by rw [hl];exact List.mem_append_right _ (by simp))
   have fin:∀(a':Act),eR (jZ (g::gs)) a a'→eR (jZ l) a (a'.put pk.dst (.bool (apV b c1 q q2))):=by
     intro a' hS s hs
     rw [hl] at hs
     obtain ⟨h1,h2⟩:=hdd _ _ s hs
     rw [←hS s h1]
     cases hdst:pk.dst with
     | none=>rfl
     | some t=>
       have hne:t≠s:=fun e=>h2 (by simp [jZ,hdst,e])
       simp [Act.put,hne]
   rw [hl]
   by_cases hbw:b=c1
   · subst hbw
     refine Eo (g::gs) (hA.IG hb) hdg hp fun a' hA' hS=>?_
     have hv:pv P e1 { pk with op:=.pick (.tmp d) (.tmp d) (.tmp d) } =some (JP b (.bool b) (.bool b)):=by simp [pv,hc1]
     refine Bp (v:=.bool (apV b b q q2)) (by simp [Region.wanted,hpg]) ?_ (hK _ ((hA.same hA'.defers hA'.size hS).put hdp _) (fin a' hS))
     unfold execOp
     simp only [hpo]
     rw [hA'.eval hc1,La]
     cases b<;>simp only [cond_true,cond_false] at hq<;>simp [asBool,hA'.eval hq]
   · have hbn:b= !c1:=by cases b<;>cases c1<;>simp_all
     have hb':look env d=some (.bool !c1):=by rw [hb,hbn]
     refine C0 (g::gs) (hA.IG hb') hdg hs fun a' hA' hS=>?_
     refine Bp (v:=.bool (apV b c1 q q2)) (by simp [Region.wanted,hpg]) ?_ (hK _ ((hA.same hA'.defers hA'.size hS).put hdp _) (fin a' hS))
     unfold execOp
     simp only [hpo]
     rw [hA'.eval hc2,hbn,Mu]
     cases c1<;>simp only [cond_true,cond_false] at hq2<;>simp [asBool,hA'.eval hq2]

theorem xe {D:List Nat} :∀ {l:List Oper},(∀o∈l,dIn D o.dst=true)→∀s,s∈jZ l→s∈D
 | [],_,s,h=>by simp [jZ] at h
 | o::l,hD,s,h=>by
   simp only [jZ] at h
   have h1:=hD o (by simp)
   split at h
   · rename_i t ht
     simp only [List.mem_cons] at h
     rcases h with rfl | h
     · rw [ht] at h1;exact mg h1
     · exact xe (fun x hx=>hD x (by simp [hx])) s h
   · exact xe (fun x hx=>hD x (by simp [hx])) s h

theorem lU {D:List Nat} :∀(ts:TL) (l:List Oper) (env:Env) (a:Act) (w:World) (K:Env→World→Prop),Agr env N a df→(∀o∈l,dOk N o.dst=true)→(∀o∈l,dIn D o.dst=true)→
   qu P ops ts l env w K→(∀env' a' w',Agr env' N a' df→eR D a a'→K env' w'→Q .normal a' w')→wpList P ops Q l a w
 | .nil,l,env,a,w,K,hA,_,_,h,hK=>by
   simp only [qu] at h
   split at h
   · exact wpList_nil (hK _ _ _ hA (eR.refl _ _) h)
   · exact h.elim
 | .op t ts,l,env,a,w,K,hA,hd,hD,h,hK=>by
   simp only [qu] at h
   cases l with
   | nil=>exact h.elim
   | cons o l'=>
     have hd':∀o∈l',dOk N o.dst=true:=fun x hx=>hd x (by simp [hx])
     have hD':∀o∈l',dIn D o.dst=true:=fun x hx=>hD x (by simp [hx])
     simp only [KM] at h
     split at h
     · rename_i hw
       refine wpList_step fun K' hK'=>?_
       rw [if_pos (dS hA hw)]
       refine En hA (hd o (by simp)) h fun env' v w' hA' hk=>hK' _ _ ?_
       exact lU ts l' env' _ w' K hA' hd' hD' hk fun e2 a2 w2 hA2 hS2 hk2=>hK e2 a2 w2 hA2 ((eR.put (hD o (by simp)) v).trans hS2) hk2
     · rename_i hw
       refine F2 (dS hA hw) ?_
       exact lU ts l' _ _ w K (hA.put (hd o (by simp)) undef) hd' hD' h fun e2 a2 w2 hA2 hS2 hk2=>hK e2 a2 w2 hA2 ((eR.put (hD o (by simp)) undef).trans hS2) hk2
     · exact h.elim
 | .sp s ts us,l,env,a,w,K,hA,hd,hD,h,hK=>by
   simp only [qu] at h
   split at h
   · rename_i b hb
     cases b with
     | true=>exact lU ts l _ a w K (hA.IG hb) hd hD (h.1 rfl) hK
     | false=>exact lU us l _ a w K (hA.IG hb) hd hD (h.2 rfl) hK
   · exact h.elim
 | .ap n ts,l,env,a,w,K,hA,hd,hD,h,hK=>by
   simp only [qu] at h
   split at h
   · rename_i env' hap
     refine Mq hA hd hap fun a' hA' hS=>?_
     refine lU ts _ env' a' w K hA' (fun o ho=>hd o (List.mem_of_mem_drop ho)) (fun o ho=>hD o (List.mem_of_mem_drop ho)) h fun e2 a2 w2 hA2 hS2 hk2=>hK e2 a2 w2 hA2 (eR.trans ?_ hS2) hk2
     intro s hs
     exact hS s fun hm=>hs (xe hD s hm)
   · exact h.elim

end
end Go.Proofs.YtpmhjnhgpplmnaaGreatDoor.Sx
end

section
namespace Go.Proofs.YtpmhjnhgpplmnaaGreatDoor.Sx
open Go
set_option maxRecDepth 8000

variable {df:List Deferred}

section
variable {P:Program} {ops:Array Oper} {Q:Exit→Act→World→Prop} {md:Region.Mode} {S:World→Prop} {T:Nat→Bool}

def oo (md:Region.Mode) (ops:Array Oper):Nat→Nat→Nat→Bool
 | 0,_,_=>false
 | f+1,j,i=>match ops[j]? with
   | none=>false
   | some oj=>oj.after.toList.any fun e=>Region.binds md e&&(Nat.beq e.on i||oo md ops f e.on i)

def lN (md:Region.Mode) (ops:Array Oper) (listed:Array Bool):Prop:=
 ∀j oj,ops[j]?=some oj→listed.getD j false=true→∀e∈oj.after,Region.binds md e=true→listed.getD e.on false=true

theorem lN.start (md:Region.Mode) (ops:Array Oper) (n:Nat):lN md ops (Array.replicate n false):=by
 intro j oj _ h
 have:(Array.replicate n false).getD j false=false:=by
   rcases Nat.lt_or_ge j n with h | h<;>simp [h]
 rw [this] at h;cases h

theorem lN.set {listed:Array Bool} (h:lN md ops listed) {i:Nat} (hi:i∈Region.ready md ops listed):lN md ops (listed.setIfInBounds i true):=by
 obtain ⟨_,oi,hoi,hall⟩:=mem_ready.1 hi
 intro j oj hj hl e he hb
 by_cases hij:i=j
 · subst hij
   have:oj=oi:=Option.some.inj (hj.symm.trans hoi)
   subst this
   exact getD_set_true (hall e he hb)
 · rw [getD_set_ne false hij] at hl
   exact getD_set_true (h j oj hj hl e he hb)

theorem nU {listed:Array Bool} (hc:lN md ops listed) {i:Nat} (hi:listed.getD i false=false):∀(f j:Nat),oo md ops f j i=true→listed.getD j false=false∧j∉Region.ready md ops listed
 | 0,_,h=>by simp [oo] at h
 | f+1,j,h=>by
   simp only [oo] at h
   split at h
   · cases h
   · rename_i oj hj
     obtain ⟨e,he,hb⟩:=List.any_eq_true.1 h
     simp only [Bool.and_eq_true,Bool.or_eq_true] at hb
     have hun:listed.getD e.on false=false:=by
       rcases hb.2 with h1 | h1
       · rw [Nat.eq_of_beq_eq_true h1];exact hi
       · exact (nU hc hi f e.on h1).1
     have he':e∈oj.after:=by simpa using he
     refine ⟨?_,fun hr=>?_⟩
     · cases hl:listed.getD j false with
       | false=>rfl
       | true=>have:=hc j oj hj hl e he' hb.1;rw [hun] at this;cases this
     · obtain ⟨_,oj',hj',hall⟩:=mem_ready.1 hr
       have:oj'=oj:=Option.some.inj (hj'.symm.trans hj)
       subst this
       have:=hall e he' hb.1
       rw [hun] at this;cases this

def jt (P:Program) (md:Region.Mode) (ops:Array Oper) (Q:Exit→Act→World→Prop) (S:World→Prop) (T:Nat→Bool):Nat→Array Bool→Act→World→Prop
 | 0,listed,a,w=>Region.ready md ops listed=[]∧Q .normal a w
 | fuel+1,listed,a,w=>
   (Region.ready md ops listed=[]→Q .normal a w)∧
   ∀i∈Region.ready md ops listed,wpOp P ops Q i (fun a' w'=>(T i=true→S w')∧jt P md ops Q S T fuel (listed.setIfInBounds i true) a' w') a w

theorem qU:∀(fuel:Nat) (listed:Array Bool) (a:Act) (w:World),jt P md ops Q S T fuel listed a w→wpAny P md ops Q fuel listed a w
 | 0,_,_,_,h=>h
 | fuel+1,_,_,_,h=>⟨h.1,fun i hi=>wpOp_mono (fun a' w' h'=>qU fuel _ a' w' h'.2) (h.2 i hi)⟩

theorem xU {i:Nat} {listed:Array Bool} (h:i∈Region.ready md ops listed):listed.getD i false=false:=by
 have h0:=(mem_ready.1 h).1
 rcases Nat.lt_or_ge i listed.size with h' | h'
 · simp [h'] at h0 ⊢;exact h0
 · simp [Array.getElem?_eq_none h']

theorem mM {S0:World→Prop} {i:Nat} {oi:Oper} {v:Value} (hi:ops[i]?=some oi) (hsel:∀(j:Nat) (o:Oper) cs b,ops[j]?=some o→o.op≠ .select cs b)
   (hQ:∀c a w,Q (.panic c) (a.put oi.dst v) w→Q (.panic c) a w) (f0:Nat) (hTi:T i=true→∀w,S0 w→S w):
   ∀(fuel:Nat) (listed:Array Bool) (a:Act) (w:World),lN md ops listed→
     (∀j oj,ops[j]?=some oj→j≠i→listed.getD j true=false→oo md ops f0 j i=true∨(oi.apart ops oj=true∧∀w',(T j=true→S w')→S0 w'))→
     i∈Region.ready md ops listed→YieldsIf P ops S0 oi v a→S0 w→
     jt P md ops Q S T fuel (listed.setIfInBounds i true) (a.put oi.dst v) w→jt P md ops Q S T (fuel+1) listed a w:=by
 intro fuel
 induction fuel with
 | zero=>
   intro listed a w _ _ hr hy hS H
   refine ⟨fun h=>(by rw [h] at hr;cases hr),fun j hj=>?_⟩
   by_cases hji:j=i
   · subst hji;exact hy.wpOp hi hS ⟨fun h=>hTi h _ hS,H⟩
   · have:=ready_mono hj hji
     rw [H.1] at this
     cases this
 | succ fuel ih=>
   intro listed a w hc hfree hr hy hS H
   refine ⟨fun h=>(by rw [h] at hr;cases hr),fun j hj=>?_⟩
   by_cases hji:j=i
   · subst hji;exact hy.wpOp hi hS ⟨fun h=>hTi h _ hS,H⟩
   · have h1:=H.2 j (ready_mono hj hji)
     obtain ⟨hjun,oj,hoj,hall⟩:=mem_ready.1 hj
     have hji':oi.apart ops oj=true∧∀w',(T j=true→S w')→S0 w':=by
       rcases hfree j oj hoj hji hjun with h | h
       · exact absurd hj (nU hc (xU hr) f0 j h).2
       · exact h
     have h2:=wpOp_putIf hoj hji'.1 (fun cs b=>hsel i oi cs b hi) (fun cs b=>hsel j oj cs b hoj) hQ hy h1
     have hfree':∀k ok,ops[k]?=some ok→k≠i→(listed.setIfInBounds j true).getD k true=false→oo md ops f0 k i=true∨(oi.apart ops ok=true∧∀w',(T k=true→S w')→S0 w'):=by
       intro k ok hk hki hun
       refine hfree k ok hk hki ?_
       by_cases hjk:j=k
       · subst hjk;exact hjun
       · rw [getD_set_ne true hjk] at hun;exact hun
     refine wpOp_mono (fun a' w' h3=>⟨h3.2.1,ih (listed.setIfInBounds j true) a' w' (hc.set hj) hfree' (ready_mono hr (Ne.symm hji)) h3.1 (hji'.2 w' h3.2.1) ?_⟩) h2
     rw [Array.setIfInBounds_comm _ _ hji]
     exact h3.2.2

theorem Eu {listed:Array Bool} {a:Act} {w:World} (hr:Region.ready md ops listed=[]) (h:Q .normal a w):∀fuel,jt P md ops Q S T fuel listed a w
 | 0=>⟨hr,h⟩
 | _+1=>⟨fun _=>h,by rw [hr];simp⟩

end

inductive ML where
 | nil | tk (i:Nat) (t:Tag) (r:ML) | ts (i:Nat) (k:Kd) (r:ML) | go (i:Nat) (t:Tag) (r:ML) | sp (s:Nat) (a b:ML)
 | two (i:Nat) (t:Tag) (a:ML) (j:Nat) (t2:Tag) (b:ML)
def ML.tks:List Nat→ML→ML
 | [],r=>r
 | i::l,r=>.tk i .p (ML.tks l r)

def Gf (ops:Array Oper) (ex:List Nat) (listed:Array Bool) (i:Nat) (needS:Bool):Bool:=
 match ops[i]? with
 | none=>false
 | some oi=>(List.range ops.size).all fun j=>Nat.beq j i||listed.getD j true||oo .any ops ops.size j i||
     (match ops[j]? with
       | some oj=>oi.apart ops oj&&(!needS|| !isIn ex j)
       | none=>false)

def qL (ops:Array Oper) (ex:List Nat):ML→Array Bool→Bool→Bool
 | .nil,listed,_=>(Region.ready .any ops listed).isEmpty
 | .tk i _ ms,listed,al=>(Region.ready .any ops listed).contains i&&Gf ops ex listed i (!isIn ex i)&&(isIn ex i||al)&&qL ops ex ms (listed.setIfInBounds i true) al
 | .ts i _ ms,listed,al=>(Region.ready .any ops listed).contains i&&Gf ops ex listed i true&&al&&qL ops ex ms (listed.setIfInBounds i true) al
 | .go i _ ms,listed,al=>(match Region.ready .any ops listed with
     | [j]=>Nat.beq j i
     | _=>false)&&qL ops ex ms (listed.setIfInBounds i true) (al&& !isIn ex i)
 | .sp _ ms ns,listed,al=>qL ops ex ms listed al&&qL ops ex ns listed al
 | .two i _ ms j _ ns,listed,al=>(match Region.ready .any ops listed with
     | [x,y]=>Nat.beq x i&&Nat.beq y j
     | _=>false)&&qL ops ex ms (listed.setIfInBounds i true) (al&& !isIn ex i)&&qL ops ex ns (listed.setIfInBounds j true) (al&& !isIn ex j)

def lz:ML→Nat
 | .nil=>0
 | .tk _ _ ms=>lz ms+1
 | .ts _ _ ms=>lz ms+1
 | .go _ _ ms=>lz ms+1
 | .sp _ ms ns=>max (lz ms) (lz ns)
 | .two _ _ ms _ _ ns=>max (lz ms) (lz ns)+1

def pz (ops:Array Oper) (ex:List Nat) (ms:ML):Bool:=
 Region.noSelect ops&&Nat.ble (lz ms) ops.size&&qL ops ex ms (Array.replicate ops.size false) true

def IP (P:Program) (ops:Array Oper) (ex:List Nat) (S:World→Prop) (i:Nat) (t:Tag) (env:Env) (w:World) (C:(World→Prop)→Env→World→Prop):Prop:=
 match ops[i]? with
 | none=>False
 | some o=>match vH ops env o with
   | some true=>GY P t o env w fun env' w'=>bif isIn ex i then C S env' w' else ∃S':World→Prop,(∀w,S' w→S w)∧S' w'∧C S' env' w'
   | some false=>bif isIn ex i then C S (put env o.dst undef) w else (S w∧C S (put env o.dst undef) w)
   | none=>False

def eA (P:Program) (ops:Array Oper) (ex:List Nat):ML→(World→Prop)→Env→World→(Env→World→Prop)→Prop
 | .nil,_,env,w,K=>K env w
 | .sp s ms ns,S,env,w,K=>match look env s with
   | some (.bool b)=>(b=true→eA P ops ex ms S ((s,some (.bool true))::env) w K)∧(b=false→eA P ops ex ns S ((s,some (.bool false))::env) w K)
   | _=>False
 | .tk i t ms,S,env,w,K=>match ops[i]? with
   | none=>False
   | some o=>match vH ops env o with
     | some true=>GB P t o env fun v=>eA P ops ex ms S (put env o.dst v) w K
     | some false=>eA P ops ex ms S (put env o.dst undef) w K
     | none=>False
 | .ts i k ms,S,env,w,K=>match ops[i]? with
   | none=>False
   | some o=>match vH ops env o with
     | some true=>match CK env o with
       | some s=>E1 k fun v=>(∀w',S w'→s.run P w'=.ok v w')∧eA P ops ex ms S (put env o.dst v) w K
       | none=>False
     | some false=>eA P ops ex ms S (put env o.dst undef) w K
     | none=>False
 | .go i t ms,S,env,w,K=>IP P ops ex S i t env w fun S' env' w'=>eA P ops ex ms S' env' w' K
 | .two i t ms j t2 ns,S,env,w,K=>(IP P ops ex S i t env w fun S' env' w'=>eA P ops ex ms S' env' w' K)∧(IP P ops ex S j t2 env w fun S' env' w'=>eA P ops ex ns S' env' w' K)

theorem lu {P:Program} {ops:Array Oper} {Q:Exit→Act→World→Prop} {md:Region.Mode} {S S':World→Prop} {T:Nat→Bool} (hS:∀w,S' w→S w):∀(fuel:Nat) (listed:Array Bool) (a:Act) (w:World),
   jt P md ops Q S' T fuel listed a w→jt P md ops Q S T fuel listed a w
 | 0,_,_,_,h=>h
 | fuel+1,_,_,_,h=>⟨h.1,fun i hi=>wpOp_mono (fun a' w' h'=>⟨fun ht=>hS _ (h'.1 ht),lu hS fuel _ a' w' h'.2⟩) (h.2 i hi)⟩

section
variable {P:Program} {N:Nat} {ops:Array Oper} {ex:List Nat} {D:List Nat} {Q:Exit→Act→World→Prop}

theorem ru {listed:Array Bool} {i:Nat} {oi:Oper} {b:Bool} (hi:ops[i]?=some oi) (h:Gf ops ex listed i b=true) (j:Nat) (oj:Oper) (hj:ops[j]?=some oj) (hne:j≠i) (hl:listed.getD j true=false):
   oo .any ops ops.size j i=true∨(oi.apart ops oj=true∧(b=true→isIn ex j=false)):=by
 unfold Gf at h
 simp only [hi] at h
 have hlt:j<ops.size:=(Array.getElem?_eq_some_iff.1 hj).1
 have h1:=List.all_eq_true.1 h j (List.mem_range.2 hlt)
 simp only [hj,Bool.or_eq_true,Bool.and_eq_true,Bool.not_eq_true'] at h1
 rcases h1 with ((h1 | h1) | h1) | h1
 · exact absurd (Nat.eq_of_beq_eq_true h1) hne
 · rw [hl] at h1;cases h1
 · exact .inl h1
 · refine .inr ⟨h1.1,fun hb=>?_⟩
   rcases h1.2 with h2 | h2
   · rw [hb] at h2;cases h2
   · exact h2

theorem Bz {S:World→Prop} {i:Nat} {t:Tag} {env:Env} {a:Act} {w:World} {C:(World→Prop)→Env→World→Prop} {K:Act→World→Prop} (hd:∀(i:Nat) (o:Oper),ops[i]?=some o→dOk N o.dst=true) (hA:Agr env N a df)
   (h:IP P ops ex S i t env w C) (hK:∀o,ops[i]?=some o→∀S' env' v w',Agr env' N (a.put o.dst v) df→(∀w,S' w→S w)→(isIn ex i=false→S' w')→C S' env' w'→K (a.put o.dst v) w'):
   wpOp P ops Q i (fun a' w'=>((!isIn ex i)=true→S w')∧K a' w') a w:=by
 unfold IP at h
 unfold wpOp
 split at h
 · exact h.elim
 · rename_i o ho
   simp only [ho]
   split at h
   · rename_i hw
     rw [if_pos (dS hA hw)]
     refine .inl (En hA (hd _ o ho) h fun env' v w' hA' hk=>?_)
     cases hx:isIn ex i with
     | true=>rw [hx] at hk;exact ⟨fun h=>by simp at h,hK o ho S env' v w' hA' (fun _ h=>h) (fun h=>by rw [hx] at h;cases h) hk⟩
     | false=>
       rw [hx] at hk
       obtain ⟨S',h1,h2,h3⟩:=hk
       exact ⟨fun _=>h1 _ h2,hK o ho S' env' v w' hA' h1 (fun _=>h2) h3⟩
   · rename_i hw
     rw [if_neg (by rw [dS hA hw];simp)]
     cases hx:isIn ex i with
     | true=>rw [hx] at h;exact ⟨fun h=>by simp at h,hK o ho S _ undef w (hA.put (hd _ o ho) undef) (fun _ h=>h) (fun h=>by rw [hx] at h;cases h) h⟩
     | false=>rw [hx] at h;exact ⟨fun _=>h.1,hK o ho S _ undef w (hA.put (hd _ o ho) undef) (fun _ h=>h) (fun _=>h.1) h.2⟩
   · exact h.elim

theorem eH (hsel:Region.noSelect ops=true) (hd:∀(i:Nat) (o:Oper),ops[i]?=some o→dOk N o.dst=true) (hD:∀(i:Nat) (o:Oper),ops[i]?=some o→dIn D o.dst=true)
   (hQp:∀c a w,¬Q (.panic c) a w):
   ∀(ms:ML) (S:World→Prop) (listed:Array Bool) (al:Bool) (fuel:Nat) (env:Env) (a:Act) (w:World) (K:Env→World→Prop),lz ms≤fuel→qL ops ex ms listed al=true→lN .any ops listed→(al=true→S w)→
     Agr env N a df→eA P ops ex ms S env w K→(∀env' a' w',Agr env' N a' df→eR D a a'→K env' w'→Q .normal a' w')→
     jt P .any ops Q S (fun i=> !isIn ex i) fuel listed a w
 | .nil,S,listed,al,fuel,env,a,w,K,_,hm,_,_,hA,h,hK=>by
   simp only [qL,List.isEmpty_iff] at hm
   simp only [eA] at h
   exact Eu hm (hK _ _ _ hA (eR.refl _ _) h) fuel
 | .sp s ms ns,S,listed,al,fuel,env,a,w,K,hf,hm,hc,hS,hA,h,hK=>by
     simp only [eA] at h
     simp only [qL,Bool.and_eq_true] at hm
     simp only [lz] at hf
     split at h
     · rename_i b hb
       cases b with
       | true=>exact eH hsel hd hD hQp ms S listed al fuel _ a w K (by omega) hm.1 hc hS (hA.IG hb) (h.1 rfl) hK
       | false=>exact eH hsel hd hD hQp ns S listed al fuel _ a w K (by omega) hm.2 hc hS (hA.IG hb) (h.2 rfl) hK
     · exact h.elim
 | .tk i t ms,S,listed,al,fuel,env,a,w,K,hf,hm,hc,hS,hA,h,hK=>by
     simp only [lz] at hf
     obtain ⟨f,rfl⟩:∃f,fuel=f+1:=⟨fuel-1,by omega⟩
     simp only [qL,Bool.and_eq_true,Bool.or_eq_true] at hm
     obtain ⟨⟨⟨hr,hfr⟩,hal⟩,hm'⟩:=hm
     have hr':i∈Region.ready .any ops listed:=by simpa using hr
     simp only [eA] at h
     split at h
     · exact h.elim
     · rename_i o ho
       have take:∀(v:Value),(∀S0:World→Prop,YieldsIf P ops S0 o v a)→eA P ops ex ms S (put env o.dst v) w K→jt P .any ops Q S (fun i=> !isIn ex i) (f+1) listed a w:=by
         intro v hy hk
         have H:jt P .any ops Q S (fun i=> !isIn ex i) f (listed.setIfInBounds i true) (a.put o.dst v) w:=
           eH hsel hd hD hQp ms S _ al f _ _ w K (by omega) hm' (hc.set hr') hS (hA.put (hd i o ho) v) hk
             fun e2 a2 w2 hA2 hS2 hk2=>hK e2 a2 w2 hA2 ((eR.put (hD i o ho) v).trans hS2) hk2
         cases hx:isIn ex i with
         | true=>
           refine mM (S0:=fun _=>True) ho (Region.noSelect_spec hsel) (fun c a' w' hp=>absurd hp (hQp c _ w')) ops.size (by simp [hx]) f listed a w hc (fun j oj hj hji hl=>?_) hr' (hy _) trivial H
           rcases ru ho hfr j oj hj hji hl with h1 | h1
           · exact .inl h1
           · exact .inr ⟨h1.1,fun _ _=>trivial⟩
         | false=>
           have hal':al=true:=by
             rcases hal with h1 | h1
             · rw [hx] at h1;cases h1
             · exact h1
           refine mM (S0:=S) ho (Region.noSelect_spec hsel) (fun c a' w' hp=>absurd hp (hQp c _ w')) ops.size (fun _ _ h=>h) f listed a w hc (fun j oj hj hji hl=>?_) hr' (hy _) (hS hal') H
           rcases ru ho hfr j oj hj hji hl with h1 | h1
           · exact .inl h1
           · exact .inr ⟨h1.1,fun w' hw'=>hw' (by simp [h1.2 (by simp [hx])])⟩
       split at h
       · rename_i hw
         obtain ⟨v,hv,hk⟩:=zZ hA h
         exact take v (fun S0=>.inl ⟨dS hA hw,fun w _=>hv w⟩) hk
       · rename_i hw
         exact take undef (fun S0=>.inr ⟨dS hA hw,rfl⟩) h
       · exact h.elim
 | .ts i k ms,S,listed,al,fuel,env,a,w,K,hf,hm,hc,hS,hA,h,hK=>by
     simp only [lz] at hf
     obtain ⟨f,rfl⟩:∃f,fuel=f+1:=⟨fuel-1,by omega⟩
     simp only [qL,Bool.and_eq_true] at hm
     obtain ⟨⟨⟨hr,hfr⟩,hal⟩,hm'⟩:=hm
     have hr':i∈Region.ready .any ops listed:=by simpa using hr
     simp only [eA] at h
     split at h
     · exact h.elim
     · rename_i o ho
       have take:∀(v:Value),YieldsIf P ops S o v a→eA P ops ex ms S (put env o.dst v) w K→jt P .any ops Q S (fun i=> !isIn ex i) (f+1) listed a w:=by
         intro v hy hk
         have H:jt P .any ops Q S (fun i=> !isIn ex i) f (listed.setIfInBounds i true) (a.put o.dst v) w:=
           eH hsel hd hD hQp ms S _ al f _ _ w K (by omega) hm' (hc.set hr') hS (hA.put (hd i o ho) v) hk
             fun e2 a2 w2 hA2 hS2 hk2=>hK e2 a2 w2 hA2 ((eR.put (hD i o ho) v).trans hS2) hk2
         refine mM (S0:=S) ho (Region.noSelect_spec hsel) (fun c a' w' hp=>absurd hp (hQp c _ w')) ops.size (fun _ _ h=>h) f listed a w hc (fun j oj hj hji hl=>?_) hr' hy (hS hal) H
         rcases ru ho hfr j oj hj hji hl with h1 | h1
         · exact .inl h1
         · exact .inr ⟨h1.1,fun w' hw'=>hw' (by simp [h1.2 rfl])⟩
       split at h
       · rename_i hw
         split at h
         · rename_i s hs
           obtain ⟨v,hv,hk⟩:=oU h
           exact take v (.inl ⟨dS hA hw,fun w' hw'=>fU (lS hA hs) (hv w' hw')⟩) hk
         · exact h.elim
       · rename_i hw
         exact take undef (.inr ⟨dS hA hw,rfl⟩) h
       · exact h.elim
 | .go i t ms,S,listed,al,fuel,env,a,w,K,hf,hm,hc,hS,hA,h,hK=>by
     simp only [lz] at hf
     obtain ⟨f,rfl⟩:∃f,fuel=f+1:=⟨fuel-1,by omega⟩
     simp only [qL,Bool.and_eq_true] at hm
     obtain ⟨hr,hm'⟩:=hm
     have hr':Region.ready .any ops listed=[i]:=by
       split at hr
       · rename_i j hj;rw [hj,Nat.eq_of_beq_eq_true hr]
       · cases hr
     have hmem:i∈Region.ready .any ops listed:=by rw [hr'];simp
     simp only [eA] at h
     refine ⟨fun h0=>(by rw [hr'] at h0;cases h0),fun j hj=>?_⟩
     rw [hr',List.mem_singleton] at hj
     subst hj
     exact Bz hd hA h fun o ho S' env' v w' hA' hss hSw hk=>lu hss _ _ _ _ <| eH hsel hd hD hQp ms S' _ _ f env' _ w' K (by omega) hm' (hc.set hmem) (fun h=>hSw (by simp only [Bool.and_eq_true] at h;simpa using h.2)) hA' hk
       fun e2 a2 w2 hA2 hS2 hk2=>hK e2 a2 w2 hA2 ((eR.put (hD _ o ho) v).trans hS2) hk2
 | .two i t ms j t2 ns,S,listed,al,fuel,env,a,w,K,hf,hm,hc,hS,hA,h,hK=>by
     simp only [lz] at hf
     obtain ⟨f,rfl⟩:∃f,fuel=f+1:=⟨fuel-1,by omega⟩
     simp only [qL,Bool.and_eq_true] at hm
     obtain ⟨⟨hr,hm1⟩,hm2⟩:=hm
     have hr':Region.ready .any ops listed=[i,j]:=by
       split at hr
       · rename_i x y hj
         simp only [Bool.and_eq_true] at hr
         rw [hj,Nat.eq_of_beq_eq_true hr.1,Nat.eq_of_beq_eq_true hr.2]
       · cases hr
     have hmi:i∈Region.ready .any ops listed:=by rw [hr'];simp
     have hmj:j∈Region.ready .any ops listed:=by rw [hr'];simp
     simp only [eA] at h
     refine ⟨fun h0=>(by rw [hr'] at h0;cases h0),fun x hx=>?_⟩
     rw [hr'] at hx
     by_cases e:x=i
     · subst e
       exact Bz hd hA h.1 fun o ho S' env' v w' hA' hss hSw hk=>lu hss _ _ _ _ <| eH hsel hd hD hQp ms S' _ _ f env' _ w' K (by omega) hm1 (hc.set hmi) (fun h=>hSw (by simp only [Bool.and_eq_true] at h;simpa using h.2)) hA' hk
         fun e2 a2 w2 hA2 hS2 hk2=>hK e2 a2 w2 hA2 ((eR.put (hD _ o ho) v).trans hS2) hk2
     · have e2:x=j:=by
         simp only [List.mem_cons,List.not_mem_nil,or_false] at hx
         rcases hx with h | h
         · exact absurd h e
         · exact h
       subst e2
       exact Bz hd hA h.2 fun o ho S' env' v w' hA' hss hSw hk=>lu hss _ _ _ _ <| eH hsel hd hD hQp ns S' _ _ f env' _ w' K (by omega) hm2 (hc.set hmj) (fun h=>hSw (by simp only [Bool.and_eq_true] at h;simpa using h.2)) hA' hk
         fun e2 a2 w2 hA2 hS2 hk2=>hK e2 a2 w2 hA2 ((eR.put (hD _ o ho) v).trans hS2) hk2

end
end Go.Proofs.YtpmhjnhgpplmnaaGreatDoor.Sx
end

section
namespace Go.Proofs.YtpmhjnhgpplmnaaGreatDoor.Sx
open Go
set_option maxRecDepth 8000

variable {df:List Deferred}

def Cur:List Kd→Type→Type
 | [],T=>World→T
 | .int _::ks,T=>Int→Cur ks T
 | .bool::ks,T=>Bool→Cur ks T
 | .str::ks,T=>ByteArray→Cur ks T
 | .ptr::ks,T=>Nat→Nat→Cur ks T
 | .slice::ks,T=>Option Addr→Nat→Nat→Cur ks T
 | .agg::ks,T=>Array Value→Cur ks T
 | .val::ks,T=>Value→Cur ks T

def fL {T:Type} (z:T):(ks:List Kd)→Cur ks T→List (Option Value)→World→T
 | [],F,_,w=>F w
 | .int k::ks,F,some (.int k' n)::vs,w=>if k=k' then fL z ks (F n) vs w else z
 | .bool::ks,F,some (.bool b)::vs,w=>fL z ks (F b) vs w
 | .str::ks,F,some (.string s)::vs,w=>fL z ks (F s) vs w
 | .ptr::ks,F,some (.pointer (some ⟨b,o,none⟩))::vs,w=>fL z ks (F b o) vs w
 | .slice::ks,F,some (.slice a n c)::vs,w=>fL z ks (F a n c) vs w
 | .agg::ks,F,some (.agg cs)::vs,w=>fL z ks (F cs) vs w
 | .val::ks,F,some v::vs,w=>fL z ks (F v) vs w
 | _::_,_,_,_=>z

def alC:(ks:List Kd)→(List Value→Prop)→Prop
 | [],F=>F []
 | .int k::ks,F=>∀n:Int,alC ks fun vs=>F (.int k n::vs)
 | .bool::ks,F=>∀b:Bool,alC ks fun vs=>F (.bool b::vs)
 | .str::ks,F=>∀s:ByteArray,alC ks fun vs=>F (.string s::vs)
 | .ptr::ks,F=>∀b o:Nat,alC ks fun vs=>F (.pointer (some ⟨b,o,none⟩)::vs)
 | .slice::ks,F=>∀(a:Option Addr) (n c:Nat),alC ks fun vs=>F (.slice a n c::vs)
 | .agg::ks,F=>∀cs:Array Value,alC ks fun vs=>F (.agg cs::vs)
 | .val::ks,F=>∀v:Value,alC ks fun vs=>F (v::vs)

theorem iX {w:World} :∀ {ks:List Kd} {I:Cur ks Prop} {os:List (Option Value)} {F:List Value→Prop},os.length=ks.length→fL False ks I os w→alC ks F→∃vs:List Value,os=vs.map some∧F vs
 | [],_,[],F,_,_,h=>⟨[],rfl,h⟩
 | [],_,_::_,_,hl,_,_=>by simp at hl
 | k::ks,I,[],F,hl,_,_=>by simp at hl
 | k::ks,I,o::os,F,hl,ha,h=>by
   have hl':os.length=ks.length:=by simpa using hl
   cases k
   case int k=>
     cases o with
     | none=>simp [fL] at ha
     | some v=>
       cases v<;>simp only [fL] at ha
       rename_i k' n
       split at ha
       · rename_i e;subst e
         obtain ⟨vs,h1,h2⟩:=iX hl' ha (h n)
         exact ⟨_::vs,by rw [h1];rfl,h2⟩
       · exact ha.elim
   case bool=>
     cases o with
     | none=>simp [fL] at ha
     | some v=>
       cases v<;>simp only [fL] at ha
       obtain ⟨vs,h1,h2⟩:=iX hl' ha (h _)
       exact ⟨_::vs,by rw [h1];rfl,h2⟩
   case str=>
     cases o with
     | none=>simp [fL] at ha
     | some v=>
       cases v<;>simp only [fL] at ha
       obtain ⟨vs,h1,h2⟩:=iX hl' ha (h _)
       exact ⟨_::vs,by rw [h1];rfl,h2⟩
   case ptr=>
     cases o with
     | none=>simp [fL] at ha
     | some v=>
       cases v<;>(try (simp [fL] at ha;done))
       rename_i p
       cases p with
       | none=>simp [fL] at ha
       | some ad=>
         obtain ⟨b,f,sp⟩:=ad
         cases sp with
         | some _=>simp [fL] at ha
         | none=>
           simp only [fL] at ha
           obtain ⟨vs,h1,h2⟩:=iX hl' ha (h _ _)
           exact ⟨_::vs,by rw [h1];rfl,h2⟩
   case slice=>
     cases o with
     | none=>simp [fL] at ha
     | some v=>
       cases v<;>simp only [fL] at ha
       obtain ⟨vs,h1,h2⟩:=iX hl' ha (h _ _ _)
       exact ⟨_::vs,by rw [h1];rfl,h2⟩
   case agg=>
     cases o with
     | none=>simp [fL] at ha
     | some v=>
       cases v<;>simp only [fL] at ha
       obtain ⟨vs,h1,h2⟩:=iX hl' ha (h _)
       exact ⟨_::vs,by rw [h1];rfl,h2⟩
   case val=>
     cases o with
     | none=>simp [fL] at ha
     | some v=>
       simp only [fL] at ha
       obtain ⟨vs,h1,h2⟩:=iX hl' ha (h _)
       exact ⟨_::vs,by rw [h1];rfl,h2⟩

def looks (env:Env):List Nat→List (Option Value)
 | []=>[]
 | s::r=>look env s::looks env r

def sets:List Nat→List Value→Env→Env
 | s::r,v::vs,env=>(s,some v)::sets r vs env
 | _,_,env=>env

inductive TC where
 | reg (ts:TL)
 | draw (ms:ML) (ex:List Nat)
 | KD (ms:ML) (ex:List Nat)
 | seq (a b:TC)
 | cond (a b:TC)
 | ct (a:TC)
 | cf (a:TC)
 | blk (a:TC)
 | loop (asg live:List Nat) (ks:List Kd) (a:TC)
 | join (asg live:List Nat) (ks:List Kd) (a:TC)
 | leaf
def TC.rg (n:Nat):TC:=.reg (.pp n .nil)
def TC.sq:List TC→TC→TC
 | [],z=>z
 | a::l,z=>.seq a (TC.sq l z)
def lr:List (Nat×Nat)→List Nat
 | []=>[]
 | (a,n)::l=>List.range' a n++lr l

def evC (P:Program) (N:Nat):TC→Code→Env→World→(Exit→Env→World→Prop)→Prop
 | .reg ts,.region _ ops false,env,w,Q=>qu P ops ts ops.toList env w fun env' w'=>Q .normal env' w'
 | .draw ms ex,.region _ ops true,env,w,Q=>bif pz ops ex ms then eA P ops ex ms (fun _=>True) env w.drew (fun env' w'=>Q .normal env' w') else False
 | .KD ms ex,.region _ ops true,env,w,Q=>bif pz ops ex ms then ∃S:World→Prop,S w.drew∧eA P ops ex ms S env w.drew (fun env' w'=>Q .normal env' w') else False
 | .seq a b,.seq x y,env,w,Q=>evC P N a x env w fun e env' w'=>match e with
   | .normal=>evC P N b y env' w' Q
   | e=>Q e env' w'
 | .cond a b,.cond c x y,env,w,Q=>match lk env c with
   | some (.bool t)=>(t=true→evC P N a x env w Q)∧(t=false→evC P N b y env w Q)
   | _=>False
 | .ct a,.cond c x _,env,w,Q=>match lk env c with
   | some (.bool true)=>evC P N a x env w Q
   | _=>False
 | .cf b,.cond c _ y,env,w,Q=>match lk env c with
   | some (.bool false)=>evC P N b y env w Q
   | _=>False
 | .blk a,.block id x,env,w,Q=>evC P N a x env w fun e env' w'=>match e with
   | .exit id'=>bif Nat.beq id' id then Q .normal env' w' else Q (.exit id') env' w'
   | e=>Q e env' w'
 | .loop asg live ks a,.loop x,env,w,Q=>bif cC asg N x&&Nat.beq live.length ks.length then
     ∃(I:Cur ks Prop) (μ:Cur ks Nat),fL False ks I (looks env live) w∧alC ks fun vs=>∀w,fL False ks I (vs.map some) w→
       evC P N a x (sets live vs (forget asg env)) w fun e env' w'=>match e with
         | .normal=>fL False ks I (looks env' live) w'∧fL 0 ks μ (looks env' live) w'<fL 0 ks μ (vs.map some) w
         | e=>Q e env' w'
     else False
 | .join asg live ks a,x,env,w,Q=>bif cC asg N x&&Nat.beq live.length ks.length then
     ∃J:Cur ks Prop,evC P N a x env w (fun e env' w'=>match e with
         | .normal=>fL False ks J (looks env' live) w'
         | e=>Q e env' w')∧
       alC ks fun vs=>∀w,fL False ks J (vs.map some) w→Q .normal (sets live vs (forget asg env)) w
     else False
 | .leaf,.skip,env,w,Q=>Q .normal env w
 | .leaf,.label _,env,w,Q=>Q .normal env w
 | .leaf,.exit id,env,w,Q=>Q (.exit id) env w
 | .leaf,.ret,env,w,Q=>Q .ret env w
 | _,_,_,_,_=>False

theorem eP (env:Env):∀l,(looks env l).length=l.length
 | []=>rfl
 | _::r=>by simp [looks,eP env r]

section
variable {P:Program} {N:Nat}

theorem gA {D:List Nat} {id:Nat} {ops:Array Oper} {d:Bool} (h:cC D N (.region id ops d)=true):(∀o∈ops.toList,dOk N o.dst=true)∧∀o∈ops.toList,dIn D o.dst=true:=by
 simp only [cC] at h
 have h':=List.all_eq_true.1 h
 exact ⟨fun o ho=>by have:=h' o ho;simp only [Bool.and_eq_true] at this;exact this.2,fun o ho=>by have:=h' o ho;simp only [Bool.and_eq_true] at this;exact this.1⟩

theorem Agr.sets {env:Env} {a:Act} (hA:Agr env N a df):∀(live:List Nat) (vs:List Value),live.length=vs.length→(∀(i s:Nat) (v:Value),live[i]?=some s→vs[i]?=some v→a.tmps[s]?=some v)→Agr (Sx.sets live vs env) N a df
 | [],vs,_,_=>by cases vs<;>exact hA
 | s::r,[],h,_=>by simp at h
 | s::r,v::vs,h,hv=>by
   have ih:=Agr.sets hA r vs (by simpa using h) (fun i s' v' h1 h2=>hv (i+1) s' v' (by simpa using h1) (by simpa using h2))
   refine ⟨ih.defers,ih.size,fun t u ht=>?_⟩
   simp only [Sx.sets,look] at ht
   cases hb:Nat.beq s t with
   | true=>
     rw [hb] at ht
     simp only [cond_true,Option.some.injEq] at ht
     rw [←Nat.eq_of_beq_eq_true hb,←ht]
     exact hv 0 s v rfl rfl
   | false=>rw [hb] at ht;exact ih.at_ t u ht

theorem rP {env:Env} {a:Act} (hA:Agr env N a df):∀(live:List Nat) (vs:List Value),looks env live=vs.map some→∀(i s:Nat) (v:Value),live[i]?=some s→vs[i]?=some v→a.tmps[s]?=some v
 | [],_,_,i,s,v,h,_=>by simp at h
 | t::r,[],h,_,_,_,_,_=>by simp [looks] at h
 | t::r,u::vs,h,0,s,v,h1,h2=>by
   simp only [looks,List.map_cons,List.cons.injEq] at h
   simp only [List.getElem?_cons_zero,Option.some.injEq] at h1 h2
   subst h1;subst h2
   exact hA.at_ _ _ h.1
 | t::r,u::vs,h,i+1,s,v,h1,h2=>by
   simp only [looks,List.map_cons,List.cons.injEq] at h
   exact rP hA r vs h.2 i s v (by simpa using h1) (by simpa using h2)

def slots (a:Act):List Nat→List (Option Value)
 | []=>[]
 | s::r=>a.tmps[s]?::slots a r

theorem tP {env:Env} {a:Act} (hA:Agr env N a df):∀(live:List Nat) (vs:List Value),looks env live=vs.map some→slots a live=vs.map some
 | [],[],_=>rfl
 | [],_::_,h=>by simp [looks] at h
 | t::r,[],h=>by simp [looks] at h
 | t::r,u::vs,h=>by
   simp only [looks,List.map_cons,List.cons.injEq] at h
   simp only [slots,List.map_cons,List.cons.injEq]
   exact ⟨hA.at_ _ _ h.1,tP hA r vs h.2⟩

theorem F5 {w:World} {ks:List Kd} {I:Cur ks Prop} {os:List (Option Value)} (hl:os.length=ks.length) (h:fL False ks I os w):∃vs:List Value,os=vs.map some:=by
 have:∀ks:List Kd,alC ks fun _=>True:=by
   intro ks
   induction ks with
   | nil=>trivial
   | cons k ks ih=>cases k<;>simp only [alC]<;>(intros;exact ih)
 obtain ⟨vs,h,_⟩:=iX hl h (this ks)
 exact ⟨vs,h⟩

theorem Jj {D:List Nat} {s:Nat} (h:s∈D):isIn D s=true:=List.any_eq_true.2 ⟨s,h,by simp⟩

theorem Iv {D E:List Nat} {d:Option Tmp} (h1:dIn D d=true) (h2:dIn E d=true):dIn (D.filter (isIn E)) d=true:=by
 cases d with
 | none=>rfl
 | some s=>exact Jj (List.mem_filter.2 ⟨mg h1,h2⟩)

theorem sw {D E:List Nat} :∀ {c:Code},cC D N c=true→cC E N c=true→cC (D.filter (isIn E)) N c=true:=by
 intro c
 induction c with
 | region id ops d=>
   intro h1 h2
   obtain ⟨a1,a2⟩:=gA h1
   obtain ⟨_,b2⟩:=gA h2
   exact List.all_eq_true.2 fun o ho=>by rw [Iv (a2 o ho) (b2 o ho),a1 o ho];rfl
 | seq a b iha ihb=>
   intro h1 h2
   simp only [cC,Bool.and_eq_true] at*
   exact ⟨iha h1.1 h2.1,ihb h1.2 h2.2⟩
 | cond o a b iha ihb=>
   intro h1 h2
   simp only [cC,Bool.and_eq_true] at*
   exact ⟨iha h1.1 h2.1,ihb h1.2 h2.2⟩
 | block id a iha=>intro h1 h2;exact iha h1 h2
 | loop a iha=>intro h1 h2;exact iha h1 h2
 | skip=>intro _ _;rfl
 | exit id=>intro _ _;rfl
 | ret=>intro _ _;rfl
 | label l=>intro _ _;rfl
 | _=>intro h1 _;cases h1

theorem M4 (hm:P.follows .mixedOrders=true) {D:List Nat} :∀(tc:TC) (c:Code) (env:Env) (a:Act) (w:World) (Q:Exit→Env→World→Prop) (Q':Exit→Act→World→Prop),cC D N c=true→Agr env N a df→
   evC P N tc c env w Q→(∀e env' a' w',Agr env' N a' df→eR D a a'→Q e env' w'→Q' e a' w')→c.wp P Q' a w:=by
 intro tc
 induction tc generalizing D with
 | reg ts=>
   intro c env a w Q Q' hc hA h hK
   cases c<;>try (exact h.elim)
   rename_i id ops d
   cases d with
   | true=>exact h.elim
   | false=>
     obtain ⟨h1,h2⟩:=gA hc
     exact wp_region_list (lU (D:=D) ts ops.toList env a w _ hA h1 h2 h fun env' a' w' hA' hS hq=>hK _ _ _ _ hA' hS hq)
 | draw ms ex=>
   intro c env a w Q Q' hc hA h hK
   cases c<;>try (exact h.elim)
   rename_i id ops d
   cases d with
   | false=>exact h.elim
   | true=>
     simp only [evC] at h
     cases hmv:pz ops ex ms with
     | false=>rw [hmv] at h;exact h.elim
     | true=>
       rw [hmv] at h
       simp only [cond_true] at h
       simp only [pz,Bool.and_eq_true] at hmv
       obtain ⟨⟨hsel,hcnt⟩,hmv⟩:=hmv
       obtain ⟨h1,h2⟩:=gA hc
       refine wp_mono (Q:=fun e a w=>e=.normal∧Q' .normal a w) ?_ (fun e a w ⟨he,hq⟩=>by subst he;exact hq)
       refine wp_region_any hm (qU (S:=fun _=>True) (T:=fun i=> !isIn ex i) _ _ _ _ ?_)
       exact eH (D:=D) hsel (fun i o ho=>h1 o (by simpa using Array.mem_of_getElem? ho)) (fun i o ho=>h2 o (by simpa using Array.mem_of_getElem? ho)) (fun c a w hp=>by simp at hp) ms _ _ true ops.size env a _ _ (Nat.le_of_ble_eq_true hcnt) hmv
         (lN.start _ _ _) (fun _=>trivial) hA h fun env' a' w' hA' hS hq=>⟨rfl,hK _ _ _ _ hA' hS hq⟩
 | KD ms ex=>
   intro c env a w Q Q' hc hA h hK
   cases c<;>try (exact h.elim)
   rename_i id ops d
   cases d with
   | false=>exact h.elim
   | true=>
     simp only [evC] at h
     cases hmv:pz ops ex ms with
     | false=>rw [hmv] at h;exact h.elim
     | true=>
       rw [hmv] at h
       simp only [cond_true] at h
       obtain ⟨S,hS0,h⟩:=h
       simp only [pz,Bool.and_eq_true] at hmv
       obtain ⟨⟨hsel,hcnt⟩,hmv⟩:=hmv
       obtain ⟨h1,h2⟩:=gA hc
       refine wp_mono (Q:=fun e a w=>e=.normal∧Q' .normal a w) ?_ (fun e a w ⟨he,hq⟩=>by subst he;exact hq)
       refine wp_region_any hm (qU (S:=S) (T:=fun i=> !isIn ex i) _ _ _ _ ?_)
       exact eH (D:=D) hsel (fun i o ho=>h1 o (by simpa using Array.mem_of_getElem? ho)) (fun i o ho=>h2 o (by simpa using Array.mem_of_getElem? ho)) (fun c a w hp=>by simp at hp) ms _ _ true ops.size env a _ _ (Nat.le_of_ble_eq_true hcnt) hmv
         (lN.start _ _ _) (fun _=>hS0) hA h fun env' a' w' hA' hS hq=>⟨rfl,hK _ _ _ _ hA' hS hq⟩
 | seq x y ihx ihy=>
   intro c env a w Q Q' hc hA h hK
   cases c<;>try (exact h.elim)
   rename_i cx cy
   simp only [cC,Bool.and_eq_true] at hc
   refine wp_seq (ihx cx env a w _ _ hc.1 hA h fun e env' a' w' hA' hS hq=>?_)
   cases e with
   | normal=>exact ihy cy env' a' w' Q Q' hc.2 hA' hq fun e2 env2 a2 w2 hA2 hS2 hq2=>hK e2 env2 a2 w2 hA2 (hS.trans hS2) hq2
   | _=>exact hK _ _ _ _ hA' hS hq
 | cond x y ihx ihy=>
   intro c env a w Q Q' hc hA h hK
   cases c<;>try (exact h.elim)
   rename_i o cx cy
   simp only [cC,Bool.and_eq_true] at hc
   simp only [evC] at h
   split at h
   · rename_i t ht
     exact wp_cond_split (hA.eval ht) (fun e=>ihx cx env a w Q Q' hc.1 hA (h.1 e) hK) (fun e=>ihy cy env a w Q Q' hc.2 hA (h.2 e) hK)
   · exact h.elim
 | ct x ihx=>
   intro c env a w Q Q' hc hA h hK
   cases c<;>try (exact h.elim)
   rename_i o cx cy
   simp only [cC,Bool.and_eq_true] at hc
   simp only [evC] at h
   split at h
   · rename_i ht
     exact wp_cond_true (hA.eval ht) (ihx cx env a w Q Q' hc.1 hA h hK)
   · exact h.elim
 | cf y ihy=>
   intro c env a w Q Q' hc hA h hK
   cases c<;>try (exact h.elim)
   rename_i o cx cy
   simp only [cC,Bool.and_eq_true] at hc
   simp only [evC] at h
   split at h
   · rename_i ht
     exact wp_cond_false (hA.eval ht) (ihy cy env a w Q Q' hc.2 hA h hK)
   · exact h.elim
 | blk x ihx=>
   intro c env a w Q Q' hc hA h hK
   cases c<;>try (exact h.elim)
   rename_i id cx
   simp only [cC] at hc
   refine wp_block (ihx cx env a w _ _ hc hA h fun e env' a' w' hA' hS hq=>?_)
   cases e with
   | exit id'=>
     simp only [Exit.inBlock]
     simp only at hq
     cases hb:Nat.beq id' id with
     | true=>rw [if_pos (Nat.eq_of_beq_eq_true hb)];rw [hb] at hq;exact hK _ _ _ _ hA' hS hq
     | false=>
       have hne:id'≠id:=fun e=>by subst e;simp at hb
       rw [if_neg hne];rw [hb] at hq;exact hK _ _ _ _ hA' hS hq
   | _=>exact hK _ _ _ _ hA' hS hq
 | loop asg live ks x ihx=>
   intro c env a w Q Q' hc hA h hK
   cases c<;>try (exact h.elim)
   rename_i cx
   simp only [evC] at h
   cases hb:(cC asg N cx&&Nat.beq live.length ks.length) with
   | false=>rw [hb] at h;exact h.elim
   | true=>
     rw [hb] at h
     simp only [cond_true] at h
     obtain ⟨I,μ,h0,hr⟩:=h
     simp only [Bool.and_eq_true] at hb
     have hlen:live.length=ks.length:=Nat.eq_of_beq_eq_true hb.2
     simp only [cC] at hc
     obtain ⟨vs0,hvs0⟩:=F5 (by rw [eP];exact hlen) h0
     refine wp_loop (fun a' w'=>∃vs:List Value,slots a' live=vs.map some∧Agr (sets live vs (forget asg env)) N a' df∧Agr (forget asg env) N a' df∧eR D a a'∧fL False ks I (vs.map some) w') (fun a' w'=>fL 0 ks μ (slots a' live) w')
       ⟨vs0,tP hA live vs0 hvs0,(hA.forget asg).sets live vs0 (by have:=congrArg List.length hvs0;rw [eP] at this;simpa using this) (rP hA live vs0 hvs0),hA.forget asg,eR.refl _ _,by rw [←hvs0];exact h0⟩ ?_
     rintro a1 w1 ⟨vs,hsl,hA1,hF1,hS1,hI⟩
     have hsll:∀l,(slots a1 l).length=l.length:=by intro l;induction l<;>simp_all [slots]
     have hvl:(vs.map some).length=ks.length:=by rw [←hsl,hsll];exact hlen
     obtain ⟨vs',he,hbody⟩:=iX hvl hI hr
     have hvv:vs=vs':=by
       have:=congrArg (List.filterMap id) he
       simpa using this
     subst hvv
     refine ihx (D:=asg.filter (isIn D)) cx _ a1 w1 _ _ (sw hb.1 hc) hA1 (hbody w1 hI) fun e env' a' w' hA' hS' hq=>?_
     have hSa:eR asg a1 a':=fun s hs=>hS' s fun hm=>hs (List.mem_filter.1 hm).1
     have hSD:eR D a1 a':=fun s hs=>hS' s fun hm=>hs (mg (List.mem_filter.1 hm).2)
     cases e with
     | normal=>
       obtain ⟨hI',hlt⟩:=hq
       obtain ⟨vs',hvs'⟩:=F5 (by rw [eP];exact hlen) hI'
       have hF':Agr (forget asg env) N a' df:=⟨hA'.defers,hA'.size,fun s v hs=>by rw [hSa s (gO hs).2];exact hF1.at_ s v hs⟩
       refine ⟨⟨vs',tP hA' live vs' hvs',hF'.sets live vs' (by have:=congrArg List.length hvs';rw [eP] at this;simpa using this) (rP hA' live vs' hvs'),hF',hS1.trans hSD,by rw [←hvs'];exact hI'⟩,?_⟩
       rw [tP hA' live vs' hvs',hsl,←hvs']
       exact hlt
     | _=>exact hK _ _ _ _ hA' (hS1.trans hSD) hq
 | join asg live ks x ihx=>
   intro c env a w Q Q' hc hA h hK
   simp only [evC] at h
   cases hb:(cC asg N c&&Nat.beq live.length ks.length) with
   | false=>rw [hb] at h;exact h.elim
   | true=>
     rw [hb] at h
     simp only [cond_true] at h
     obtain ⟨J,h1,h2⟩:=h
     simp only [Bool.and_eq_true] at hb
     have hlen:live.length=ks.length:=Nat.eq_of_beq_eq_true hb.2
     refine ihx (D:=asg.filter (isIn D)) c env a w _ _ (sw hb.1 hc) hA h1 fun e env' a' w' hA' hS' hq=>?_
     have hSa:eR asg a a':=fun s hs=>hS' s fun hm=>hs (List.mem_filter.1 hm).1
     have hSD:eR D a a':=fun s hs=>hS' s fun hm=>hs (mg (List.mem_filter.1 hm).2)
     cases e with
     | normal=>
       obtain ⟨vs,hvs,hk⟩:=iX (by rw [eP];exact hlen) hq h2
       have hF':Agr (forget asg env) N a' df:=⟨hA'.defers,hA'.size,fun s v hs=>by rw [hSa s (gO hs).2];exact hA.at_ s v (gO hs).1⟩
       refine hK _ _ _ _ (hF'.sets live vs (by have:=congrArg List.length hvs;rw [eP] at this;simpa using this) (rP hA' live vs hvs)) hSD (hk w' (by rw [←hvs];exact hq))
     | _=>exact hK _ _ _ _ hA' hSD hq
 | leaf=>
   intro c env a w Q Q' hc hA h hK
   cases c<;>try (exact h.elim)
   · exact wp_skip (hK _ _ _ _ hA (eR.refl _ _) h)
   · exact wp_exit (hK _ _ _ _ hA (eR.refl _ _) h)
   · exact wp_label (hK _ _ _ _ hA (eR.refl _ _) h)
   · exact wp_ret (hK _ _ _ _ hA (eR.refl _ _) h)

end

def vC:Nat→List Value→Env
 | _,[]=>[]
 | i,v::vs=>(i,some v)::vC (i+1) vs

def Ds (P:Program):List ResultVar→Env→World→(List Value→Prop)→Prop
 | [],_,_,F=>F []
 | .tmp t::rs,env,w,F=>match look env t with
   | some v=>Ds P rs env w fun vs=>F (v::vs)
   | none=>False
 | .cell t ty::rs,env,w,F=>match look env t with
   | some (.pointer (some ad))=>∃v,(loadVar ty ad).run P w=.ok v w∧Ds P rs env w fun vs=>F (v::vs)
   | _=>False

def K3 (P:Program) (fn:Func) (R:Ending→World→Prop):Exit→Env→World→Prop
 | .normal,env,w=>Ds P fn.results.toList env w fun vs=>R (.returned (pack vs)) w
 | .ret,env,w=>Ds P fn.results.toList env w fun vs=>R (.returned (pack vs)) w
 | _,_,_=>False

section
variable {P:Program} {N:Nat}

theorem C9:∀(vs:List Value) (i s:Nat) (v:Value),look (vC i vs) s=some v→∃j,s=i+j∧vs[j]?=some v
 | [],_,_,_,h=>by simp [vC,look] at h
 | u::vs,i,s,v,h=>by
   simp only [vC,look] at h
   cases hb:Nat.beq i s with
   | true=>rw [hb] at h;simp only [cond_true,Option.some.injEq] at h;exact ⟨0,(Nat.eq_of_beq_eq_true hb).symm,by simp [h]⟩
   | false=>
     rw [hb] at h
     obtain ⟨j,hj,hv⟩:=C9 vs (i+1) s v h
     exact ⟨j+1,by omega,by simpa using hv⟩

theorem KW (vs:List Value):(if h:vs.toArray.size=1 then vs.toArray[0] else .tuple vs.toArray)=pack vs:=by
 match vs with
 | []=>rfl
 | [v]=>rfl
 | u::v::r=>simp [pack]

def Ar (a:Act):ResultVar→Sem Value
 | .tmp t=>pure (a.tmps.getD t undef)
 | .cell x t=>do loadVar t (←asAddr (a.tmps.getD x undef))

theorem xM {env:Env} {a:Act} {w:World} (hA:Agr env N a df):∀(rs:List ResultVar) (F:List Value→Prop),Ds P rs env w F→
   ∃vs,(rs.mapM (Ar a)).run P w=.ok vs w∧F vs
 | [],F,h=>⟨[],by simp,h⟩
 | .tmp t::rs,F,h=>by
   simp only [Ds] at h
   split at h
   · rename_i v hv
     obtain ⟨vs,hr,hF⟩:=xM hA rs _ h
     have h1:(Ar a (.tmp t)).run P w=.ok v w:=by simp [Ar,hA.at_ t v hv]
     exact ⟨v::vs,by rw [List.mapM_cons];simp only [Sem.run_bind,h1,hr,Result.andThen_ok];rfl,hF⟩
   · exact h.elim
 | .cell t ty::rs,F,h=>by
   simp only [Ds] at h
   split at h
   · rename_i ad hv
     obtain ⟨v,hl,h⟩:=h
     obtain ⟨vs,hr,hF⟩:=xM hA rs _ h
     have h1:(Ar a (.cell t ty)).run P w=.ok v w:=by simp [Ar,hA.at_ t _ hv,asAddr,hl]
     exact ⟨v::vs,by rw [List.mapM_cons];simp only [Sem.run_bind,h1,hr,Result.andThen_ok];rfl,hF⟩
   · exact h.elim

theorem CT {f:FuncId} {fn:Func} {tc:TC} {args:List Value} {w:World} {R:Ending→World→Prop} {V:Prop} (hm:P.follows .mixedOrders=true) (hf:P.funcs[f]?=some fn) (hb:fn.body.isSome=true)
   (hc:cC (List.range fn.ntmps) fn.ntmps (fn.body.getD .skip)=true) (hN:Nat.ble args.length fn.ntmps=true)
   (hV:evC P fn.ntmps tc (fn.body.getD .skip) (vC 0 args) w (K3 P fn R)=V) (h:V):Calls P f args.toArray w R:=by
 rw [←hV] at h
 have hb':fn.body=some (fn.body.getD .skip):=by
   cases hx:fn.body with
   | none=>rw [hx] at hb;cases hb
   | some c=>rfl
 have hN':=Nat.le_of_ble_eq_true hN
 have hA0:Agr (vC 0 args) fn.ntmps { tmps:=args.toArray++Array.replicate (fn.ntmps-args.toArray.size) undef,defers:=[] } []:=by
   refine ⟨rfl,by simp;omega,fun s v hs=>?_⟩
   obtain ⟨j,hj,hv⟩:=C9 args 0 s v hs
   have hjl:j<args.length:=(List.getElem?_eq_some_iff.1 hv).1
   have:s=j:=by omega
   subst this
   rw [Array.getElem?_append_left (by simpa using hjl)]
   simpa using hv
 refine calls_of_wp hf hb' (M4 hm (D:=List.range fn.ntmps) tc _ _ _ w _ _ hc hA0 h fun e env' a' w' hA' _ hq=>?_)
 have key:Ds P fn.results.toList env' w' (fun vs=>R (.returned (pack vs)) w')→a'.defers=[]∧∃v,(results fn a'.tmps).run P w'=.ok v w'∧R (.returned v) w':=by
   intro hq
   obtain ⟨vs,hr,hR⟩:=xM hA' fn.results.toList _ hq
   refine ⟨hA'.defers,pack vs,?_,hR⟩
   have he:results fn a'.tmps=(do let vs ←fn.results.mapM (Ar a');pure (if h:vs.size=1 then vs[0] else .tuple vs)):=by
     unfold results
     congr 1
   rw [he,Array.mapM_eq_mapM_toList]
   simp only [Sem.run_bind,Sem.run_map,hr,Result.andThen_ok]
   rw [←KW vs]
   rfl
 cases e<;>simp only [K3] at hq
 case normal=>exact key hq
 case ret=>exact key hq
theorem BO {f:FuncId} {fn:Func} {tc:TC} {args:List Value} {w:World} {R:Ending→World→Prop} {V:Prop} (hf:P.funcs[f]?=some fn)
   (hA:(P.follows .mixedOrders&&fn.body.isSome&&cC (List.range fn.ntmps) fn.ntmps (fn.body.getD .skip)&&Nat.ble args.length fn.ntmps)=true)
   (hV:evC P fn.ntmps tc (fn.body.getD .skip) (vC 0 args) w (K3 P fn R)=V) (h:V):Calls P f args.toArray w R:=by
 simp only [Bool.and_eq_true] at hA
 exact CT hA.1.1.1 hf hA.1.1.2 hA.1.2 hA.2 hV h

end
end Go.Proofs.YtpmhjnhgpplmnaaGreatDoor.Sx
end

section
namespace Go.Proofs.YtpmhjnhgpplmnaaGreatDoor.Sx
open Go
set_option maxRecDepth 8000

def bv (l:List UInt8):List Value:=l.map fun b=>.int .u8 (b.toNat:Int)
@[simp] theorem cN (l:List UInt8):(bv l).length=l.length:=by simp [bv]
@[simp] theorem OZ:bv []=[]:=rfl
@[simp] theorem mu (a b:List UInt8):bv (a++b)=bv a++bv b:=by simp [bv]
theorem FM (l:List UInt8) (i:Nat):(bv l)[i]?=l[i]?.map fun b=>.int .u8 (b.toNat:Int):=by simp [bv]
theorem aO (l:List UInt8):∀u∈bv l,u.oneCell'=true:=by
 intro u hu;simp only [bv,List.mem_map] at hu;obtain ⟨b,_,rfl⟩:=hu;rfl
theorem fB (l:List UInt8) (n:Nat):bv (l.drop n)=(bv l).drop n:=by simp [bv]
theorem jI (l:List UInt8) (n:Nat):bv (l.take n)=(bv l).take n:=by simp [bv]

def Cells (w:World) (a:Option Addr) (cs:List Value):Prop:=cs=[]∨∃b o,a=some ⟨b,o,none⟩∧w.rangeAt b o cs

theorem Cells.nil (w:World) (a:Option Addr):Cells w a []:=.inl rfl

theorem Cells.at_ {w:World} {a:Option Addr} {cs:List Value} (h:Cells w a cs) {i:Nat} {v:Value} (hv:cs[i]?=some v):∃b o,a=some ⟨b,o,none⟩∧w.cell? ⟨b,o+i,none⟩=some v:=by
 rcases h with rfl | ⟨b,o,ha,hr⟩
 · simp at hv
 · exact ⟨b,o,ha,hr i v hv⟩

structure Rd (w:World) (a:Option Addr) (n c:Nat) (sz:Nat) (cs:List Value):Prop where
 cells:Cells w a cs
 len:cs.length=n*sz
 le:n≤c
 nil:a=none→c=0

abbrev RdB (w:World) (a:Option Addr) (n c:Nat) (l:List UInt8):Prop:=Rd w a n c 1 (bv l)

theorem Rd.bB {w:World} {a:Option Addr} {n c:Nat} {l:List UInt8} (h:RdB w a n c l):l.length=n:=by have:=h.len;simpa using this

structure Chg (X:List Nat) (w w':World):Prop where
 os:w'.os=w.os
 tape:w'.tape=w.tape
 output:w'.output=w.output
 size:w.heap.size≤w'.heap.size
 block:∀k,k<w.heap.size→k∉X→w'.heap[k]?=w.heap[k]?

theorem Chg.refl (X:List Nat) (w:World):Chg X w w:=⟨rfl,rfl,rfl,Nat.le_refl _,fun _ _ _=>rfl⟩
theorem Chg.trans {X:List Nat} {a b c:World} (h:Chg X a b) (k:Chg X b c):Chg X a c:=
 ⟨k.os.trans h.os,k.tape.trans h.tape,k.output.trans h.output,Nat.le_trans h.size k.size,fun i hi hx=>(k.block i (Nat.lt_of_lt_of_le hi h.size) hx).trans (h.block i hi hx)⟩
theorem Chg.mono {X Y:List Nat} {a b:World} (h:Chg X a b) (hs:∀k∈X,k∈Y):Chg Y a b:=⟨h.os,h.tape,h.output,h.size,fun k hk hy=>h.block k hk fun hx=>hy (hs k hx)⟩
theorem Chg.trans' {X Y:List Nat} {a b c:World} (h:Chg X a b) (k:Chg Y b c) (hY:∀i∈Y,a.heap.size≤i∨i∈X):Chg X a c:=
 ⟨k.os.trans h.os,k.tape.trans h.tape,k.output.trans h.output,Nat.le_trans h.size k.size,fun i hi hx=>(k.block i (Nat.lt_of_lt_of_le hi h.size) fun hy=>by
   rcases hY i hy with h1 | h1
   · omega
   · exact hx h1).trans (h.block i hi hx)⟩
theorem Chg.drew (X:List Nat) (w:World):Chg X w w.drew:=⟨rfl,rfl,rfl,Nat.le_refl _,fun _ _ _=>rfl⟩
theorem Chg.alloc (w:World) (o:Obj):Chg [] w (w.alloc o):=⟨rfl,rfl,rfl,by simp,fun k hk _=>heap_alloc_old w o hk⟩
theorem Chg.below {w w':World} (h:Chg [] w w'):RowKit.Below w.heap.size w w':=⟨h.os,h.tape,h.output,h.size,fun k hk=>h.block k hk (by simp)⟩
theorem Chg.wJ {w w':World} (h:RowKit.Below w.heap.size w w'):Chg [] w w':=⟨h.os,h.tape,h.output,h.size,fun k hk _=>h.block k hk⟩
theorem Chg.yT {w w':World} {r:Option Nat} (h:w.grownBy w' r):Chg r.toList w w':=
 ⟨h.os,h.tape,h.output,h.size,fun k hk hx=>h.block k hk fun e=>hx (by simp [←e])⟩

theorem Cells.keep {w w':World} {X:List Nat} {a:Option Addr} {cs:List Value} (h:Cells w a cs) (hc:Chg X w w') (hX:∀ad,a=some ad→ad.block∉X):Cells w' a cs:=by
 rcases h with rfl | ⟨b,o,ha,hr⟩
 · exact .inl rfl
 · refine .inr ⟨b,o,ha,fun j v hv=>?_⟩
   have h1:=hr j v hv
   rw [←h1]
   exact World.cell?_of_block (hc.block b (World.block_lt_of_cell? w _ h1) (hX _ ha))

theorem Cells.au {w w':World} {a:Option Addr} {cs:List Value} (h:Cells w a cs) (hc:Chg [] w w'):Cells w' a cs:=h.keep hc (by simp)

theorem Rd.keep {w w':World} {X:List Nat} {a:Option Addr} {n c sz:Nat} {cs:List Value} (h:Rd w a n c sz cs) (hc:Chg X w w') (hX:∀ad,a=some ad→ad.block∉X):Rd w' a n c sz cs:=⟨h.cells.keep hc hX,h.len,h.le,h.nil⟩
theorem Rd.au {w w':World} {a:Option Addr} {n c sz:Nat} {cs:List Value} (h:Rd w a n c sz cs) (hc:Chg [] w w'):Rd w' a n c sz cs:=h.keep hc (by simp)

inductive Res where
 | blk (g:Nat) (o:Obj)
 | row (e:TypeId) (sz:Nat) (v:Value) (n:Nat) (xs:List Value)

def Res.holds (w:World):Res→Prop
 | .blk g o=>w.heap[g]?=some o
 | .row e sz v n xs=>w.ownsRow 0 e sz v n xs

def Res.fp:Res→List Nat
 | .blk g _=>[g]
 | .row _ _ v _ _=>v.ownBlock.toList

def Res.emp:Res:=.row 0 0 (.slice none 0 0) 0 []

theorem Res.lt {w:World} :∀ {r:Res},r.holds w→∀k∈r.fp,k<w.heap.size
 | .blk g o,h,k,hk=>by
   simp only [Res.fp,List.mem_singleton] at hk
   subst hk
   exact (Array.getElem?_eq_some_iff.1 h).1
 | .row e sz v n xs,h,k,hk=>by
   simp only [Res.fp,Option.mem_toList] at hk
   exact (World.ownsRow.lt h k (by simpa using hk)).2

theorem Res.kept {w w':World} :∀ {r:Res},r.holds w→(∀k∈r.fp,w'.heap[k]?=w.heap[k]?)→r.holds w'
 | .blk g o,h,hk=>by rw [Res.holds,hk g (by simp [Res.fp])];exact h
 | .row e sz v n xs,h,hk=>by
   obtain ⟨h1,h2⟩:=h
   refine ⟨h1,?_⟩
   rcases h2 with h2 | ⟨g,cap,cur,rfl,hb,hg,r⟩
   · exact .inl h2
   · exact .inr ⟨g,cap,cur,rfl,hb,by rw [hk g (by simp [Res.fp,Value.ownBlock])];exact hg,r⟩

structure St (w0:World) (X:List Nat) (w:World) (M:List Res):Prop where
 chg:Chg X w0 w
 holds:∀(i:Nat) (r:Res),M[i]?=some r→r.holds w
 own:∀(i:Nat) (r:Res),M[i]?=some r→∀k∈r.fp,w0.heap.size≤k∨k∈X
 apart:∀(i j:Nat) (r s:Res),i≠j→M[i]?=some r→M[j]?=some s→∀k∈r.fp,k∉s.fp

section
variable {w0 w w':World} {X:List Nat} {M:List Res}

theorem St.start (w:World):St w [] w []:=⟨Chg.refl _ _,by simp,by simp,by simp⟩

theorem St.upd (h:St w0 X w M) {i:Nat} {r r':Res} (hi:M[i]?=some r) (hc:Chg r.fp w w') (hr':r'.holds w') (hfp:∀k∈r'.fp,k∈r.fp∨w.heap.size≤k):St w0 X w' (M.set i r'):=by
 have hlt:i<M.length:=(List.getElem?_eq_some_iff.1 hi).1
 have get:∀j s,(M.set i r')[j]?=some s→(j=i∧s=r')∨(j≠i∧M[j]?=some s):=by
   intro j s hj
   by_cases e:i=j
   · subst e
     rw [List.getElem?_set_self hlt] at hj
     exact .inl ⟨rfl,(Option.some.inj hj).symm⟩
   · rw [List.getElem?_set_ne e] at hj
     exact .inr ⟨fun h=>e h.symm,hj⟩
 refine ⟨?_,?_,?_,?_⟩
 · exact h.chg.trans' hc (fun k hk=>h.own i r hi k hk)
 · intro j s hj
   rcases get j s hj with ⟨_,h2⟩ | ⟨hne,hj2⟩
   · rw [h2];exact hr'
   · exact Res.kept (h.holds j s hj2) fun k hk=>hc.block k (Res.lt (h.holds j s hj2) k hk) (fun hx=>h.apart j i s r hne hj2 hi k hk hx)
 · intro j s hj k hk
   rcases get j s hj with ⟨_,h2⟩ | ⟨hne,hj2⟩
   · rw [h2] at hk
     rcases hfp k hk with h1 | h1
     · exact h.own i r hi k h1
     · exact .inl (Nat.le_trans h.chg.size h1)
   · exact h.own j s hj2 k hk
 · intro j l s t hjl hj hl k hk hk'
   rcases get j s hj with ⟨ej,es⟩ | ⟨hne,hj2⟩
   · rcases get l t hl with ⟨el,_⟩ | ⟨hne',hl2⟩
     · exact hjl (ej.trans el.symm)
     · rw [es] at hk
       rcases hfp k hk with h1 | h1
       · exact h.apart i l r t (fun e=>hne' e.symm) hi hl2 k h1 hk'
       · have:=Res.lt (h.holds l t hl2) k hk';omega
   · rcases get l t hl with ⟨el,et⟩ | ⟨hne',hl2⟩
     · rw [et] at hk'
       rcases hfp k hk' with h1 | h1
       · exact h.apart j i s r hne hj2 hi k hk h1
       · have:=Res.lt (h.holds j s hj2) k hk;omega
     · exact h.apart j l s t hjl hj2 hl2 k hk hk'

theorem St.add (h:St w0 X w M) {r:Res} (hc:Chg [] w w') (hr:r.holds w') (hfp:∀k∈r.fp,w.heap.size≤k):St w0 X w' (M++ [r]):=by
 have get:∀j s,(M++ [r])[j]?=some s→(j=M.length∧s=r)∨(j≠M.length∧M[j]?=some s):=by
   intro j s hj
   by_cases hl:j<M.length
   · rw [List.getElem?_append_left hl] at hj;exact .inr ⟨by omega,hj⟩
   · rw [List.getElem?_append_right (by omega)] at hj
     have:j-M.length=0:=by
       rcases Nat.eq_zero_or_pos (j-M.length) with h | h
       · exact h
       · rw [List.getElem?_eq_none (by simp;omega)] at hj;cases hj
     rw [this] at hj
     simp at hj
     exact .inl ⟨by omega,hj.symm⟩
 refine ⟨h.chg.trans' hc (by simp),?_,?_,?_⟩
 · intro j s hj
   rcases get j s hj with ⟨_,h2⟩ | ⟨_,hj2⟩
   · rw [h2];exact hr
   · exact Res.kept (h.holds j s hj2) fun k hk=>hc.block k (Res.lt (h.holds j s hj2) k hk) (by simp)
 · intro j s hj k hk
   rcases get j s hj with ⟨_,h2⟩ | ⟨_,hj2⟩
   · rw [h2] at hk;exact .inl (Nat.le_trans h.chg.size (hfp k hk))
   · exact h.own j s hj2 k hk
 · intro j l s t hjl hj hl k hk hk'
   rcases get j s hj with ⟨ej,es⟩ | ⟨_,hj2⟩
   · rcases get l t hl with ⟨el,_⟩ | ⟨_,hl2⟩
     · exact hjl (ej.trans el.symm)
     · rw [es] at hk;have:=Res.lt (h.holds l t hl2) k hk';have:=hfp k hk;omega
   · rcases get l t hl with ⟨el,et⟩ | ⟨_,hl2⟩
     · rw [et] at hk';have:=Res.lt (h.holds j s hj2) k hk;have:=hfp k hk';omega
     · exact h.apart j l s t hjl hj2 hl2 k hk hk'

theorem St.same (h:St w0 X w M) (hc:Chg [] w w'):St w0 X w' M:=
 ⟨h.chg.trans' hc (by simp),fun j s hj=>Res.kept (h.holds j s hj) fun k hk=>hc.block k (Res.lt (h.holds j s hj) k hk) (by simp),h.own,h.apart⟩

theorem St.drew (h:St w0 X w M):St w0 X w.drew M:=h.same (Chg.drew _ _)

theorem Res.It (w:World):Res.emp.holds w:=World.ownsRow_nil w 0 0 0

theorem St.bZ (h:St w0 X w M) (e:TypeId) (sz:Nat):St w0 X w (M++ [.row e sz (.slice none 0 0) 0 []]):=
 h.add (Chg.refl _ _) (World.ownsRow_nil _ _ _ _) (by simp [Res.fp,Value.ownBlock])

theorem St.pop {r:Res} (h:St w0 X w (M++ [r])):St w0 X w M:=by
 have key:∀j s,M[j]?=some s→(M++ [r])[j]?=some s:=fun j s hj=>by
   rw [List.getElem?_append_left (List.getElem?_eq_some_iff.1 hj).1];exact hj
 exact ⟨h.chg,fun j s hj=>h.holds j s (key j s hj),fun j s hj=>h.own j s (key j s hj),fun j l s t hjl hj hl=>h.apart j l s t hjl (key j s hj) (key l t hl)⟩

theorem qx {e:TypeId} {sz:Nat} {a:Option Addr} {n c m:Nat} {xs:List Value} (h:w.ownsRow 0 e sz (.slice a n c) m xs):Cells w a xs:=by
 rcases h.2 with ⟨hv,hn⟩ | ⟨g,cap,cur,hv,_⟩
 · have:xs=[]:=List.eq_nil_of_length_eq_zero (by rw [h.1,hn];simp)
   exact .inl this
 · simp only [Value.slice.injEq] at hv
   obtain ⟨rfl,_,_⟩:=hv
   refine .inr ⟨g,0,rfl,fun j v hj=>?_⟩
   have:=World.ownsRow.cells h (g:=g) rfl j v hj
   rw [Addr.add_mid] at this
   exact this

theorem St.cells (h:St w0 X w M) {i:Nat} {e:TypeId} {sz:Nat} {a:Option Addr} {n c m:Nat} {xs:List Value} (hi:M[i]?=some (.row e sz (.slice a n c) m xs)):Cells w a xs:=qx (h.holds i _ hi)

theorem rj {e:TypeId} {sz:Nat} {a:Option Addr} {n c:Nat} {xs:List Value} (h:w.ownsRow 0 e sz (.slice a n c) n xs):Rd w a n c sz xs:=by
 refine ⟨qx h,h.1,?_,?_⟩
 · rcases h.2 with ⟨hv,hn⟩ | ⟨g,cap,cur,hv,_,_,hnc,_⟩
   · omega
   · simp only [Value.slice.injEq] at hv;omega
 · intro e
   rcases h.2 with ⟨hv,hn⟩ | ⟨g,cap,cur,hv,_,_,hnc,_⟩
   · simp only [Value.slice.injEq] at hv;exact hv.2.2
   · subst e;simp at hv

theorem St.rd (h:St w0 X w M) {i:Nat} {e:TypeId} {sz:Nat} {a:Option Addr} {n c:Nat} {xs:List Value} (hi:M[i]?=some (.row e sz (.slice a n c) n xs)):Rd w a n c sz xs:=rj (h.holds i _ hi)
theorem St.rd1 (h:St w0 [] w M) {a:Option Addr} {n c sz:Nat} {cs:List Value} (hr:Rd w0 a n c sz cs):Rd w a n c sz cs:=hr.au h.chg

theorem HS {g o n:Nat} {c:Array Value} {T:TypeId} {fr:Nat×Nat} (h:w.heap[g]?=some (.cells c T fr)):Cells w (some ⟨g,o,none⟩) ((c.toList.drop o).take n):=by
 refine .inr ⟨g,o,rfl,fun j v hj=>?_⟩
 rw [cell_of_row w g _ c T fr h]
 rw [List.getElem?_take] at hj
 split at hj
 · rw [List.getElem?_drop] at hj;simpa using hj
 · cases hj

end

structure gz (P:Program) (t e sz by_:Nat) (z:Value):Prop where
 ht:P.underlying t=some (.slice e)
 inf:∃i,P.info? e=some i∧i.zero=some z∧i.size=sz∧i.bytes=by_
 zs:z.cells.size=sz
 pos:0<sz

section
variable {P:Program} {w0 w:World} {X:List Nat} {M:List Res}

theorem St.box (h:St w0 X w M) (T:TypeId) (v:Value):∃g w',(Instr.box T v).run P w=.ok (.pointer (some ⟨g,0,none⟩)) w'∧St w0 X w' (M++ [.blk g (.cells v.cells T)]):=by
 refine ⟨w.heap.size,w.alloc (.cells v.cells T),by simp [Instr.box,newVar,newRow],h.add (Chg.alloc _ _) (heap_alloc_new w _) (by simp [Res.fp])⟩

theorem St.zero (h:St w0 X w M) {T:TypeId} {z:Value} (hz:∀w,(zeroValue T).run P w=.ok z w):∃g w',(Instr.alloc T true (.tuple #[])).run P w=.ok (.pointer (some ⟨g,0,none⟩)) w'∧St w0 X w' (M++ [.blk g (.cells z.cells T)]):=by
 refine ⟨w.heap.size,w.alloc (.cells z.cells T),by simp [Instr.alloc,hz,newVar,newRow],h.add (Chg.alloc _ _) (heap_alloc_new w _) (by simp [Res.fp])⟩

theorem ld1 {T:TypeId} {b o:Nat} {v:Value} (hT:(isAgg T).run P w=.ok false w) (hc:w.cell? ⟨b,o,none⟩=some v):(Instr.loadAt T (.pointer (some ⟨b,o,none⟩))).run P w=.ok v w:=by
 simp [Instr.loadAt,Instr.sureAddr,loadVar,hT,load,Sem.run,hc]

theorem St.ld (h:St w0 X w M) {i g o:Nat} {c:Array Value} {T' T:TypeId} {fr:Nat×Nat} {v:Value} (hi:M[i]?=some (.blk g (.cells c T' fr))) (hT:(isAgg T).run P w=.ok false w) (hv:c[o]?=some v):
   (Instr.loadAt T (.pointer (some ⟨g,o,none⟩))).run P w=.ok v w:=
 ld1 hT (by rw [cell_of_row w g o c T' fr (h.holds i _ hi)];exact hv)

theorem St.st (h:St w0 X w M) {i g o:Nat} {c:Array Value} {T' T:TypeId} {v:Value} (hi:M[i]?=some (.blk g (.cells c T' (0,0)))) (hT:(sizeOf T).run P w=.ok 1 w) (ho:o<c.size) (hv:v.oneCell'=true):
   ∃w',(Instr.storeAt T (.pointer (some ⟨g,o,none⟩)) v).run P w=.ok () w'∧St w0 X w' (M.set i (.blk g (.cells (c.setIfInBounds o v) T' (0,0)))):=by
 have hg:=h.holds i _ hi
 have hcs:v.cells= #[v]:=by cases v<;>first | rfl | (simp [Value.oneCell'] at hv)
 have hst:=run_storeCells_at P g o T' [v] 0 c w hg (by simp;omega) (by simpa using hv)
 have hset:(c.toList.take o++ [v]++c.toList.drop (o+1)).toArray=c.setIfInBounds o v:=by
   apply Array.ext'
   rw [Array.toList_setIfInBounds,List.set_eq_take_append_cons_drop]
   simp [ho]
 simp only [Nat.add_zero,List.length_singleton] at hst
 rw [hset] at hst
 refine ⟨_,?_,h.upd hi (w':=w.setRow g (c.setIfInBounds o v)) ⟨rfl,rfl,rfl,by simp,fun k _ hk=>setRow_other w g k _ (fun e=>hk (by simp [Res.fp,e]))⟩ (setRow_heap w g c _ T' _ hg) (by simp [Res.fp])⟩
 simp [Instr.storeAt,Instr.sureAddr,storeVar,hT,hcs,hst]

theorem St.append (h:St w0 X w M) {i:Nat} {t ty e sz by_:Nat} {z:Value} {va a:Option Addr} {n vc m c:Nat} {xs news:List Value} (E:gz P t e sz by_ z)
   (hi:M[i]?=some (.row e sz (.slice va n vc) n xs)) (hs':Rd w a m c sz news) (h1:∀u∈news,u.oneCell'=true) (hb:(n+m)*by_≤140737488355328) (hm:n+m≤maxLen):
   ∃va' vc' w',(Builtin.append_ #[t,t] ty #[.slice va n vc,.slice a m c]).run P w=.ok (.slice va' (n+m) vc') w'∧St w0 X w' (M.set i (.row e sz (.slice va' (n+m) vc') (n+m) (xs++news)))∧
     (n+m≤vc→va'=va∧vc'=vc)∧n+m≤vc':=by
 have hs:=hs'.cells
 have hl:=hs'.len
 have ha:a=none→c=0∧m=0:=fun e=>⟨hs'.nil e,by have:=hs'.nil e;have:=hs'.le;omega⟩
 obtain ⟨inf,hinf,hz,hsz,hby⟩:=E.inf
 have hown:w.ownsRow 0 e sz (.slice va n vc) n xs:=h.holds i _ hi
 have hn:n≤vc:=by
   rcases hown.2 with ⟨hv,rfl⟩ | ⟨g,cap,cur,hv,_,_,hnc,_⟩
   · omega
   · simp only [Value.slice.injEq] at hv;omega
 cases a with
 | none=>
   obtain ⟨rfl,rfl⟩:=ha rfl
   have hnews:news=[]:=List.eq_nil_of_length_eq_zero (by simpa using hl)
   subst hnews
   have hr:=run_append_owned_none (P:=P) w 0 t ty e inf sz E.ht hinf _ n xs hown
   refine ⟨va,vc,w,by simpa using hr,?_,fun _=>⟨rfl,rfl⟩,by omega⟩
   simp only [Nat.add_zero,List.append_nil]
   exact h.upd hi (Chg.refl _ _) hown (fun k hk=>.inl hk)
 | some ad=>
   have hnews:∀j u,news[j]?=some u→w.cell? (ad.add j)=some u:=by
     intro j u hu
     obtain ⟨b,o,he,hc⟩:=hs.at_ hu
     simp only [Option.some.injEq] at he
     subst he
     rw [Addr.add_mid]
     exact hc
   by_cases hroom:n+m≤vc
   · by_cases hnil:va=none
     · -- a nil slice has no room: nothing is appended
       subst hnil
       have hv0:vc=0∧n=0:=by
         rcases hown.2 with ⟨hv,rfl⟩ | ⟨g,cap,cur,hv,_⟩
         · simp only [Value.slice.injEq] at hv;omega
         · simp at hv
       have hm0:m=0:=by omega
       subst hm0
       have hnw:news=[]:=List.eq_nil_of_length_eq_zero (by simpa using hl)
       subst hnw
       obtain ⟨v',w',hr,h2,h3,h4⟩:=run_append_own (P:=P) w 0 t ty e inf z sz by_ E.ht hinf hz hsz hby E.zs E.pos _ n xs hown ad 0 c [] (by simp) (by simp) (by simp) (by omega) (by omega) (Nat.zero_le _)
       have hv':v'=.slice none 0 0:=h4.2 ⟨by rw [hv0.1,hv0.2],rfl⟩
       subst hv'
       refine ⟨none,0,w',by rw [hv0.2] at hr ⊢;simpa using hr,?_,fun _=>⟨rfl,hv0.1.symm⟩,by omega⟩
       have hc:=Chg.yT h3
       refine h.upd hi (hc.mono (by simp [Res.fp])) ?_ (by simp [Res.fp,Value.ownBlock])
       simp only [hv0.2] at h2 ⊢
       exact h2
     · obtain ⟨g,hg⟩:∃g,va=some ⟨g,0,none⟩:=by
         rcases hown.2 with ⟨hv,_⟩ | ⟨g,cap,cur,hv,_⟩
         · simp only [Value.slice.injEq] at hv;exact absurd hv.1 hnil
         · simp only [Value.slice.injEq] at hv;exact ⟨g,hv.1⟩
       subst hg
       obtain ⟨w',hr,h2,h3⟩:=run_append_fits (P:=P) w 0 t ty e inf sz E.ht hinf hsz g n vc xs hown ad m c news hl hnews h1 hroom
       exact ⟨_,vc,w',hr,h.upd hi ((Chg.yT h3).mono (by simp [Res.fp,Value.ownBlock])) h2 (by simp [Res.fp,Value.ownBlock]),fun _=>⟨rfl,rfl⟩,hroom⟩
   · obtain ⟨v',w',hr,h2,h3,h4,h5⟩:=run_append_own_at (P:=P) w 0 t ty e inf z sz by_ E.ht hinf hz hsz hby E.zs E.pos _ n xs hown ad m c news hl hnews h1 hm hb (Nat.zero_le _)
     have hform:∃va' vc',v'=.slice va' (n+m) vc'∧n+m≤vc':=by
       rcases h2.2 with ⟨hv,h0⟩ | ⟨g,cap,cur,hv,_,_,hnc,_⟩
       · exact ⟨none,0,by rw [hv,h0],by omega⟩
       · exact ⟨_,cap,hv,hnc⟩
     obtain ⟨va',vc',rfl,hle⟩:=hform
     refine ⟨va',vc',w',hr,h.upd hi ((Chg.yT h3).mono (by simp [Res.fp])) h2 ?_,fun h=>absurd h hroom,hle⟩
     intro k hk
     simp only [Res.fp,Option.mem_toList] at hk ⊢
     rcases h5 with h5 | h5
     · left;rw [←h5];exact hk
     · right
       rw [h5] at hk
       simp only [Option.some.injEq] at hk
       omega

theorem St.mk0 (h:St w0 X w M) {t e sz by_:Nat} {z:Value} {kl kc:IntKind} {c:Int} (E:gz P t e sz by_ z) (h0:0≤c) (hb:(by_:Int)*c≤281474976710656) (hm:c≤9223372036854775807):
   ∃g w',(Instr.makeSlice t (.int kl 0) (.int kc c)).run P w=.ok (.slice (some ⟨g,0,none⟩) 0 c.toNat) w'∧St w0 X w' (M++ [.row e sz (.slice (some ⟨g,0,none⟩) 0 c.toNat) 0 []]):=by
 obtain ⟨inf,hinf,hz,hsz,hby⟩:=E.inf
 have hr:=run_make (P:=P) w t e inf z E.ht hinf hz kl kc 0 c (Int.le_refl _) h0 (by rw [hby];exact hb) hm
 simp only [Int.toNat_zero] at hr
 refine ⟨_,_,hr,h.add (Chg.alloc _ _) ?_ (by simp [Res.fp,Value.ownBlock])⟩
 refine World.ownsRow_made w _ c.toNat (Nat.zero_le _) (by simp only [maxLen];omega) ?_
 rw [size_madeCells,hsz]

theorem xu (z:Value) (n:Nat):(madeCells #[z] n).toList=List.replicate n z:=toList_madeCells_one z n

theorem St.Lh (h:St w0 X w M) {t e sz by_:Nat} {z:Value} {kl kc:IntKind} {c:Nat} (E:gz P t e sz by_ z) (hb:by_*c≤281474976710656) (hm:c≤9223372036854775807):
   ∃g w',(Instr.makeSlice t (.int kl 0) (.int kc (c:Int))).run P w=.ok (.slice (some ⟨g,0,none⟩) 0 c) w'∧St w0 X w' (M++ [.row e sz (.slice (some ⟨g,0,none⟩) 0 c) 0 []]):=by
 have h2:((by_*c:Nat):Int)≤281474976710656:=by omega
 rw [Int.natCast_mul] at h2
 have:=h.mk0 (kl:=kl) (kc:=kc) (c:=(c:Int)) E (by omega) h2 (by omega)
 rwa [Int.toNat_natCast] at this

theorem St.mkN (h:St w0 X w M) {t e by_:Nat} {z:Value} {kl kc:IntKind} {c:Int} (E:gz P t e 1 by_ z) (hz1:z.cells= #[z]) (h0:0≤c) (hb:(by_:Int)*c≤281474976710656) (hm:c≤9223372036854775807):
   ∃g w',(Instr.makeSlice t (.int kl c) (.int kc c)).run P w=.ok (.slice (some ⟨g,0,none⟩) c.toNat c.toNat) w'∧St w0 X w' (M++ [.row e 1 (.slice (some ⟨g,0,none⟩) c.toNat c.toNat) c.toNat (List.replicate c.toNat z)]):=by
 obtain ⟨inf,hinf,hz,hsz,hby⟩:=E.inf
 have hr:=run_make (P:=P) w t e inf z E.ht hinf hz kl kc c c h0 (Int.le_refl _) (by rw [hby];exact hb) hm
 refine ⟨_,_,hr,h.add (Chg.alloc _ _) ?_ (by simp [Res.fp,Value.ownBlock])⟩
 have:=World.ownsRow_lit (base:=0) (e:=e) (size:=1) w (madeCells z.cells (c.toNat*inf.size)) c.toNat (Nat.zero_le _) (by simp only [maxLen];omega) (by rw [size_madeCells,hsz])
 rw [hsz,hz1,xu,Nat.mul_one] at this
 rw [hsz,hz1,Nat.mul_one]
 exact this

theorem Cv:∀(vs:List Value) (k:Nat) (cells:Array Value),(∀v∈vs,v.oneCell'=true)→cells.size=k+vs.length→
   Instr.fill (fun i=>some (i*1,1)) cells ((vs.zipIdx k).map fun p=>(p.2,p.1))=some (cells.toList.take k++vs).toArray
 | [],k,cells,_,hs=>by
   simp only [List.zipIdx_nil,List.map_nil,Instr.fill,List.append_nil]
   rw [List.take_of_length_le (by simp;simpa using Nat.le_of_eq hs)]
 | v::vs,k,cells,h1,hs=>by
   have hc:v.cells= #[v]:=by
     have:=h1 v (by simp)
     cases v<;>first | rfl | (simp [Value.oneCell'] at this)
   have hk:k<cells.size:=by simp at hs;omega
   simp only [List.zipIdx_cons,List.map_cons,Instr.fill,hc]
   have hn:¬(#[v].size≠1∨k*1+ #[v].size>cells.size):=by simp;omega
   rw [if_neg (by simpa using hn)]
   have hf:(#[v].zipIdx.foldl (fun cs (c,j)=>cs.setIfInBounds (k*1+j) c) cells)=cells.setIfInBounds k v:=by simp
   rw [hf,Cv vs (k+1) (cells.setIfInBounds k v) (fun u hu=>h1 u (by simp [hu])) (by simp at hs ⊢;omega)]
   congr 2
   rw [Array.toList_setIfInBounds]
   apply List.ext_getElem?
   intro j
   simp only [List.getElem?_append,List.length_take,List.length_set,Array.length_toList]
   rw [Nat.min_eq_left (by omega),Nat.min_eq_left (by omega)]
   by_cases hj:j<k
   · simp [hj,Nat.lt_succ_of_lt hj,show ¬k=j by omega]
   · by_cases hj2:j=k
     · subst hj2;simp [hk]
     · have:¬j<k+1:=by omega
       simp only [hj,this,if_false]
       obtain ⟨d,rfl⟩:∃d,j=k+1+d:=⟨j- (k+1),by omega⟩
       have e1:k+1+d- (k+1)=d:=by omega
       have e2:k+1+d-k=d+1:=by omega
       rw [e1,e2]
       simp

theorem St.lit (h:St w0 X w M) {t e by_:Nat} {z:Value} (E:gz P t e 1 by_ z) (vs:List Value) (h1:∀v∈vs,v.oneCell'=true) (hb:vs.length≤16777216):
   ∃g w',(Instr.buildSlice t vs.length ((vs.zipIdx 0).map fun p=>(p.2,p.1)).toArray).run P w=.ok (.slice (some ⟨g,0,none⟩) vs.length vs.length) w'∧
     St w0 X w' (M++ [.row e 1 (.slice (some ⟨g,0,none⟩) vs.length vs.length) vs.length vs]):=by
 obtain ⟨inf,hinf,hz,hsz,hby⟩:=E.inf
 have hlt:¬vs.length>2^24:=by omega
 have hrow:(w.alloc (.cells vs.toArray e)).ownsRow 0 e 1 (.slice (some ⟨w.heap.size,0,none⟩) vs.length vs.length) vs.length vs:=by
   have:=World.ownsRow_lit (base:=0) (e:=e) (size:=1) w vs.toArray vs.length (Nat.zero_le _) (by simp only [maxLen];omega) (by simp)
   simpa using this
 refine ⟨w.heap.size,_,?_,h.add (Chg.alloc _ (.cells vs.toArray e)) hrow (by simp [Res.fp,Value.ownBlock])⟩
 have hf2:=Cv vs 0 ((Array.range vs.length).map fun i=>z.cells[i%z.cells.size]!) h1 (by simp)
 simp only [List.take_zero,List.nil_append] at hf2
 by_cases h0:vs.length=0
 · have:vs=[]:=List.eq_nil_of_length_eq_zero h0
   subst this
   simp [Instr.buildSlice,run_underlying E.ht,sizeOf,typeInfo,hinf,Instr.fill,newRow,Array.range_zero']
 · simp only [Instr.buildSlice,Sem.run_bind,run_underlying E.ht,Result.andThen_ok,sizeOf,typeInfo,run_program,hinf,hsz,Sem.run_pure,Nat.mul_one,h0,if_false,zeroValue,hz,hlt,newRow]
   have hpl:(fun i=>some (i*1,1):Nat→Option (Nat×Nat))=fun i=>some (i,1):=by funext i;simp
   rw [hpl] at hf2
   rw [hf2]
   simp

theorem ixB {T:TypeId} {a:Option Addr} {n:Nat} {l:List UInt8} {j:Int} {K:Nat→Nat→Int→Prop} (hT:(isAgg T).run P w=.ok false w) (hc:Cells w a (bv l)) (hn:l.length=n) (h0:0≤j) (h1:j<(n:Int))
   (hK:∀b o,a=some ⟨b,o,none⟩→K b o ((l.getD j.toNat 0).toNat:Int)):
   ∃b o,a=some ⟨b,o,none⟩∧0≤j∧j<(n:Int)∧∃t:Int,(Instr.loadAt T (.pointer (some ⟨b,o+Int.toNat j*1,none⟩))).run P w=.ok (.int .u8 t) w∧K b o t:=by
 have hlt:j.toNat<l.length:=by omega
 have hv:(bv l)[j.toNat]?=some (.int .u8 ((l.getD j.toNat 0).toNat:Int)):=by
   rw [FM,List.getElem?_eq_getElem hlt];simp [List.getD,hlt]
 obtain ⟨b,o,ha,hcell⟩:=hc.at_ hv
 exact ⟨b,o,ha,h0,h1,_,by rw [Nat.mul_one];exact ld1 hT hcell,hK b o ha⟩

theorem cu {b o:Nat} {cs:List Value} (h:w.rangeAt b o cs):(loadCells ⟨b,o,none⟩ cs.length).run P w=.ok cs.toArray w:=
 run_loadCells_list (P:=P) w ⟨b,o,none⟩ cs (fun j v hv=>by rw [Addr.add_mid];exact h j v hv)

theorem foldl_push (l:List UInt8):(l.map fun b=>(b.toNat:Int)).foldl (fun r n=>r.push (UInt8.ofNat n.toNat)) ByteArray.empty=⟨l.toArray⟩:=by
 rw [foldl_push_bytes]
 have e:ByteArray.empty.data= #[]:=rfl
 rw [e,Array.empty_append]
 simp [List.map_map,Function.comp_def]

theorem toStr {S D e:TypeId} {a:Option Addr} {c:Nat} {n:Nat} {l:List UInt8} (hS:P.underlying S=some (.slice e)) (he:P.underlying e=some (.int .u8)) (hD:P.underlying D=some .string) (hc:Cells w a (bv l)) (hn:l.length=n):
   (convert S D (.slice a n c)).run P w=.ok (.string ⟨l.toArray⟩) w:=by
 subst hn
 have hconv:(convert S D (.slice a l.length c)).run P w=(Conv.bytesToString (.slice a l.length c)).run P w:=by
   simp [convert,run_underlying hS,run_underlying hD,run_underlying he]
 rw [hconv]
 rcases hc with h0 | ⟨b,o,rfl,hr⟩
 · have hl:l=[]:=by cases l with
     | nil=>rfl
     | cons x y=>simp [bv] at h0
   subst hl
   cases a with
   | none=>exact show _=Result.ok (Value.string ByteArray.empty) w by simp [Conv.bytesToString]
   | some ad=>
     have:=run_bytesToString (P:=P) w ad 0 c [] (by simp [loadCells,loadCellsFrom])
     exact this
 · have hb:bv l=(l.map fun b=>(b.toNat:Int)).map (Value.int .u8):=by simp [bv]
   have h1:=cu (P:=P) hr
   rw [cN,hb] at h1
   have:=run_bytesToString (P:=P) w ⟨b,o,none⟩ l.length c _ h1
   rw [foldl_push] at this
   exact this

theorem St.KG (h:St w0 X w M) {i g n c j:Nat} {e T:TypeId} {xs:List Value} {v:Value} (hi:M[i]?=some (.row e 1 (.slice (some ⟨g,0,none⟩) n c) n xs)) (hT:(sizeOf T).run P w=.ok 1 w) (hj:j<n) (hv:v.oneCell'=true):
   ∃w',(Instr.storeAt T (.pointer (some ⟨g,j,none⟩)) v).run P w=.ok () w'∧St w0 X w' (M.set i (.row e 1 (.slice (some ⟨g,0,none⟩) n c) n (xs.set j v))):=by
 have hown:w.ownsRow 0 e 1 (.slice (some ⟨g,0,none⟩) n c) n xs:=h.holds i _ hi
 obtain ⟨hlen,hrow⟩:=hown
 rcases hrow with ⟨hv0,_⟩ | ⟨g',cap,cur,hv0,hb,hg,hnc,hcm,hcs,ht⟩
 · simp at hv0
 · simp only [Value.slice.injEq,Option.some.injEq,Addr.mk.injEq,and_true,true_and] at hv0
   obtain ⟨rfl,rfl⟩:=hv0
   have hcs':v.cells= #[v]:=by cases v<;>first | rfl | (simp [Value.oneCell'] at hv)
   have hst:=run_storeCells_at P g j e [v] 0 cur w hg (by simp;omega) (by simpa using hv)
   have hset:(cur.toList.take j++ [v]++cur.toList.drop (j+1)).toArray=cur.setIfInBounds j v:=by
     apply Array.ext'
     rw [Array.toList_setIfInBounds,List.set_eq_take_append_cons_drop]
     simp [show j<cur.size by omega]
   simp only [Nat.add_zero,List.length_singleton] at hst
   rw [hset] at hst
   refine ⟨_,?_,h.upd hi (w':=w.setRow g (cur.setIfInBounds j v)) ⟨rfl,rfl,rfl,by simp,fun k _ hk=>setRow_other w g k _ (fun e=>hk (by simp [Res.fp,Value.ownBlock,e]))⟩ ?_ (by simp [Res.fp,Value.ownBlock])⟩
   · simp [Instr.storeAt,Instr.sureAddr,storeVar,hT,hcs',hst]
   · refine ⟨by simpa using hlen,.inr ⟨g,c,_,rfl,hb,setRow_heap w g cur _ e _ hg,hnc,hcm,by simpa using hcs,?_⟩⟩
     rw [Array.toList_setIfInBounds,←ht,List.take_set]

end
end Go.Proofs.YtpmhjnhgpplmnaaGreatDoor.Sx
end

section
namespace Go.Proofs.YtpmhjnhgpplmnaaGreatDoor.Sx
open Go
set_option maxRecDepth 8000

theorem wrap_u8 (n:Int):IntKind.wrap .u8 n=n%256:=by simp [IntKind.wrap,IntKind.bits,IntKind.signed]
theorem wrap_u32 (n:Int):IntKind.wrap .u32 n=n%4294967296:=by simp [IntKind.wrap,IntKind.bits,IntKind.signed]
theorem wrap_u64 (n:Int):IntKind.wrap .u64 n=n%18446744073709551616:=by simp [IntKind.wrap,IntKind.bits,IntKind.signed]
theorem wrap_i64 {n:Int} (h0: -9223372036854775808≤n) (h1:n<9223372036854775808):IntKind.wrap .i64 n=n:=by
 simp only [IntKind.wrap,IntKind.bits,IntKind.signed,Bool.true_and,ge_iff_le,decide_eq_true_eq]
 have e1:(2:Int)^64=18446744073709551616:=by decide
 have e2:(2:Int)^(64-1)=9223372036854775808:=by decide
 rw [e1,e2]
 split<;>omega
theorem sy (n:Nat) (h:n<9223372036854775808):IntKind.wrap .i64 (n:Int)=n:=wrap_i64 (by omega) (by omega)

theorem Ed (n:Int):IntKind.wrap .i64 n=if n%18446744073709551616<9223372036854775808 then n%18446744073709551616 else n%18446744073709551616-18446744073709551616:=by
 simp only [IntKind.wrap,IntKind.bits,IntKind.signed,Bool.true_and,ge_iff_le,decide_eq_true_eq]
 have e1:(2:Int)^64=18446744073709551616:=by decide
 have e2:(2:Int)^(64-1)=9223372036854775808:=by decide
 rw [e1,e2]
 split<;>split<;>omega

theorem jO (n w:Nat):BitVec.ofInt w (n:Int)=BitVec.ofNat w n:=by
 apply BitVec.eq_of_toNat_eq
 simp

def eM (k:IntKind):Nat:=2^k.bits

theorem oL {k:IntKind} (hk:k.signed=false) {n:Nat} (h:n<eM k):IntKind.wrap k (n:Int)=n:=by
 simp only [IntKind.wrap,hk,Bool.false_and,Bool.false_eq_true,if_false]
 have:((2:Int)^k.bits)=((eM k:Nat):Int):=by simp [eM]
 rw [this]
 exact Int.emod_eq_of_lt (by omega) (by omega)

theorem sF {k:IntKind} (hk:k.signed=false) {a b:Nat} (ha:a<eM k) (hb:b<eM k):eo k (a:Int) (b:Int)=((a&&& b:Nat):Int):=by
 unfold eo
 rw [jO,jO]
 simp only [BitVec.toNat_and,BitVec.toNat_ofNat]
 rw [Nat.mod_eq_of_lt (show a<2^k.bits from ha),Nat.mod_eq_of_lt (show b<2^k.bits from hb)]
 exact oL hk (Nat.lt_of_le_of_lt Nat.and_le_left ha)

theorem wF {k:IntKind} (hk:k.signed=false) {a b:Nat} (ha:a<eM k) (hb:b<eM k):bor k (a:Int) (b:Int)=((a||| b:Nat):Int):=by
 unfold bor
 rw [jO,jO]
 simp only [BitVec.toNat_or,BitVec.toNat_ofNat]
 rw [Nat.mod_eq_of_lt (show a<2^k.bits from ha),Nat.mod_eq_of_lt (show b<2^k.bits from hb)]
 exact oL hk (Nat.or_lt_two_pow ha hb)

theorem nM {k:IntKind} (hk:k.signed=false) {a b:Nat} (ha:a<eM k) (hb:b<eM k):aU k (a:Int) (b:Int)=((a^^^b:Nat):Int):=by
 unfold aU
 rw [jO,jO]
 simp only [BitVec.toNat_xor,BitVec.toNat_ofNat]
 rw [Nat.mod_eq_of_lt (show a<2^k.bits from ha),Nat.mod_eq_of_lt (show b<2^k.bits from hb)]
 exact oL hk (Nat.xor_lt_two_pow ha hb)

theorem mP (k:IntKind) (a n:Nat) (hn:n≤k.bits):dh k (a:Int) (n:Int)=((a / 2^n:Nat):Int):=by
 unfold dh
 rw [Int.toNat_natCast,Nat.min_eq_left hn]
 rw [Int.fdiv_eq_ediv_of_nonneg _ (by exact_mod_cast Nat.zero_le _)]
 simp

theorem A8 {k:IntKind} (hk:k.signed=false) (a n:Nat) (hn:n≤k.bits):gY k (a:Int) (n:Int)=((a*2^n%eM k:Nat):Int):=by
 unfold gY
 rw [Int.toNat_natCast,Nat.min_eq_left hn]
 simp only [IntKind.wrap,hk,Bool.false_and,Bool.false_eq_true,if_false,eM]
 simp

theorem ay {i n:Nat} (h:i<n) (hn:n≤4611686018427387904):IntKind.wrap .i64 ((i:Int)+1)=((i+1:Nat):Int):=by rw [wrap_i64 (by omega) (by omega)];rfl
theorem aB {i n:Nat} (h:i<n) (hn:n≤4611686018427387904):n- (IntKind.wrap .i64 ((i:Int)+1)).toNat<n- ((i:Int)).toNat:=by rw [ay h hn];omega

end Go.Proofs.YtpmhjnhgpplmnaaGreatDoor.Sx
end

section
namespace Go.Proofs.YtpmhjnhgpplmnaaGreatDoor
open Go Sx
set_option maxRecDepth 8000

theorem bT:gz Tryz.prog 26 5 1 1 (.int .u8 0):=⟨by kernel_rfl,⟨Tryz.t5,by kernel_rfl,by kernel_rfl,by kernel_rfl,by kernel_rfl⟩,rfl,by decide⟩
theorem bS:Tryz.prog.underlying 26=some (.slice 5):=by kernel_rfl
theorem bE:Tryz.prog.underlying 5=some (.int .u8):=by kernel_rfl
theorem sS:Tryz.prog.underlying 9=some .string:=by kernel_rfl
theorem bA (w:World):(isAgg 5).run Tryz.prog w=.ok false w:=Tryz.isAgg5 w

theorem Sx.cG {P:Program} {f:FuncId} {args:Array Value} {w:World} {R R':Ending→World→Prop} (h:Calls P f args w R) (k:∀e w',R e w'→R' e w'):Calls P f args w R':=by
 intro cs
 obtain ⟨e,w',fr,hR,h⟩:=h cs
 exact ⟨e,w',fr,k _ _ hR,h⟩

def aY (w w':World) (a:Option Addr) (n c:Nat) (l:List UInt8):Prop:=
 Chg [] w w'∧l.length=n∧w'.ownsRow w.heap.size 5 1 (.slice a n c) n (bv l)

theorem iq {w:World} {b b':Nat} {e:TypeId} {sz:Nat} {v:Value} {n:Nat} {xs:List Value} (h:w.ownsRow b e sz v n xs) (hb:b'≤b):w.ownsRow b' e sz v n xs:=by
 obtain ⟨h1,h2⟩:=h
 refine ⟨h1,?_⟩
 rcases h2 with h2 | ⟨g,cap,cur,hv,hg,r⟩
 · exact .inl h2
 · exact .inr ⟨g,cap,cur,hv,by omega,r⟩

theorem aY.add {w0 w w':World} {X:List Nat} {M:List Res} {a:Option Addr} {n c:Nat} {l:List UInt8} (h:aY w w' a n c l) (hS:St w0 X w M):St w0 X w' (M++ [.row 5 1 (.slice a n c) n (bv l)]):=
 hS.add h.1 (iq h.2.2 (Nat.zero_le _)) fun k hk=>(World.ownsRow.lt h.2.2 k (by simpa [Res.fp] using hk)).1

theorem Sx.St.JL {w w':World} {M:List Res} (hS:St w [] w' M) {i:Nat} {e:TypeId} {sz:Nat} {v:Value} {n:Nat} {xs:List Value} (hi:M[i]?=some (.row e sz v n xs)):w'.ownsRow w.heap.size e sz v n xs:=by
 have h:=hS.holds i _ hi
 obtain ⟨h1,h2⟩:=h
 refine ⟨h1,?_⟩
 rcases h2 with h2 | ⟨g,cap,cur,hv,hg,r⟩
 · exact .inl h2
 · have:=hS.own i _ hi g (by subst hv;simp [Res.fp,Value.ownBlock])
   simp at this
   exact .inr ⟨g,cap,cur,hv,this,r⟩

theorem Sx.St.jm {w w':World} {M:List Res} (hS:St w [] w' M) {i:Nat} {a:Option Addr} {n c:Nat} {l:List UInt8} (hi:M[i]?=some (.row 5 1 (.slice a n c) n (bv l))):aY w w' a n c l:=by
 have h:=St.JL hS hi
 exact ⟨hS.chg,by have:=h.1;simpa using this,h⟩

theorem Sx.St.E3 {w0 w:World} {X:List Nat} {M:List Res} {e:TypeId} {sz:Nat} {a:Option Addr} {n c:Nat} {xs:List Value} (h:St w0 X w (M++ [.row e sz (.slice a n c) n xs])):Rd w a n c sz xs:=h.rd (i:=M.length) (by rw [List.getElem?_append_right (Nat.le_refl _),Nat.sub_self];rfl)

theorem Sx.St.vI {w0 w:World} {X:List Nat} {M:List Res} (hS:St w0 X w M) {i:Nat} {a:Option Addr} {n c:Nat} {pre:List UInt8} (hi:M[i]?=some (.row 5 1 (.slice a n c) n (bv pre))) (hn:n+1≤140737488355000) (b:Nat) (hb:b<256):
   ∃g w2 va vc w3,(Instr.buildSlice 26 1 #[(0,.int .u8 (b:Int))]).run Tryz.prog w=.ok (.slice (some ⟨g,0,none⟩) 1 1) w2∧
     (Builtin.append_ #[26,26] 26 #[.slice a n c,.slice (some ⟨g,0,none⟩) 1 1]).run Tryz.prog w2=.ok (.slice va (n+1) vc) w3∧
     St w0 X w3 (M.set i (.row 5 1 (.slice va (n+1) vc) (n+1) (bv (pre++ [UInt8.ofNat b]))))∧St w0 X w2 M:=by
 have him:i<M.length:=(List.getElem?_eq_some_iff.1 hi).1
 obtain ⟨g,w2,hr2,h2⟩:=hS.lit bT [.int .u8 (b:Int)] (by simp [Value.oneCell']) (by simp)
 obtain ⟨va,vc,w3,hr3,h3,_,_⟩:=h2.append (i:=i) (ty:=26) bT (by rw [List.getElem?_append_left him];exact hi) h2.E3 (by simp [Value.oneCell']) (by simp;omega) (by simp only [maxLen,List.length_cons,List.length_nil];omega)
 refine ⟨g,w2,va,vc,w3,hr2,hr3,?_⟩
 rw [List.set_append_left _ _ him] at h3
 have:bv (pre++ [UInt8.ofNat b])=bv pre++ [.int .u8 (b:Int)]:=by
   have h1:bv [UInt8.ofNat b]=[.int .u8 (b:Int)]:=by simp [bv,Nat.mod_eq_of_lt hb]
   rw [mu,h1]
 rw [this]
 exact ⟨St.pop h3,St.pop h2⟩

theorem aY.nil (w:World):aY w w none 0 0 []:=⟨Chg.refl _ _,rfl,World.ownsRow_nil _ _ _ _⟩

end Go.Proofs.YtpmhjnhgpplmnaaGreatDoor
end

section
namespace Go.Proofs.YtpmhjnhgpplmnaaGreatDoor
open Go Sx Go.ChangeShapes Go.WideShapes Go.RowKit
set_option maxRecDepth 8000

theorem Lv {z:Int} (h:(Lit.int .u8 z).wf=true):(((UInt8.ofNat z.toNat).toNat:Nat):Int)=z:=by
 have:=bounds_u8 h
 simp
 omega

theorem NI {H:Type} {enc:TypeId×Value→H} {W:World} {fuel:Nat} {cs:List Value} {x:DataW H×List MemPlace} (hf:DataW.trod enc Tryz.prog W 0 (fun _=>true) true fuel 26 cs=some x):
   ∃a n c l,cs=[.slice a n c]∧RdB W a n c l∧((x.1=.nil∧c=0)∨∃es sp,x.1=.slice es sp∧es.length+sp.length=c):=by
 rcases open_ints bS bE (by kernel_rfl) hf with ⟨hcs,hx⟩ | ⟨x',n,c,zs,hcs,_,hl,hm,hz,hx,hcell,hwz⟩
 · subst hcs hx
   exact ⟨none,0,0,[],rfl,⟨Cells.nil _ _,rfl,Nat.le_refl _,fun _=>rfl⟩,.inl ⟨rfl,rfl⟩⟩
 · subst hcs hx
   simp only [if_true] at hz
   have hbv:bv ((zs.take n).map fun z=>UInt8.ofNat z.toNat)=(zs.take n).map (Value.int .u8):=by
     simp only [bv,List.map_map]
     refine List.map_congr_left fun z hzm=>?_
     simp only [Function.comp_apply]
     rw [Lv (hwz z (List.mem_of_mem_take hzm))]
   refine ⟨some x',n,c,(zs.take n).map fun z=>UInt8.ofNat z.toNat,rfl,⟨?_,?_,hl,by simp⟩,.inr ⟨_,_,rfl,?_⟩⟩
   · rw [hbv]
     rcases Nat.eq_zero_or_pos n with h0 | h0
     · subst h0;exact .inl rfl
     · right
       have h1:=hcell 0 (by omega)
       obtain ⟨b,o,sp⟩:=x'
       have hsp:sp=none:=by
         cases sp with
         | none=>rfl
         | some s=>
           simp only [Addr.add,if_true,World.cell?] at h1
           split at h1<;>simp at h1
       subst hsp
       refine ⟨b,o,rfl,fun j v hj=>?_⟩
       rw [List.getElem?_map,List.getElem?_take] at hj
       split at hj
       · have hjl:j<zs.length:=by omega
         have h2:=hcell j hjl
         rw [Addr.add_mid] at h2
         rw [List.getElem?_eq_getElem hjl] at hj
         simp only [Option.map_some,Option.some.injEq] at hj
         rw [h2,←hj]
         simp [List.getD,hjl]
       · simp at hj
   · rw [hbv];simp;omega
   · simp [lits];omega

theorem Dw {H:Type} {enc:TypeId×Value→H} {W:World} {t e sz fuel:Nat} {cs0:List Value} {x:DataW H×List MemPlace} (hu:Tryz.prog.underlying t=some (.slice e)) (hc:Tryz.prog.cellsOf e=sz) (hsz:0<sz)
   (hf:DataW.trod enc Tryz.prog W 0 (fun _=>true) true fuel t cs0=some x):
   ∃a n c cs m,cs0=[.slice a n c]∧Rd W a n c sz cs∧∀i,i<n→∃y,DataW.trod enc Tryz.prog W 0 (fun _=>true) true m e ((cs.drop (sz*i)).take sz)=some y:=by
 rcases DataW.trod_slice hu hf with ⟨rfl,_⟩ | ⟨a,n,c,elems,rest,m,_,rfl,_,_,hle,_,hel,hget,_⟩
 · exact ⟨none,0,0,[],0,rfl,⟨Cells.nil _ _,by simp,Nat.le_refl _,fun _=>rfl⟩,fun i hi=>by omega⟩
 · rw [hc] at hget
   have each:∀i,i<n→∃f:List Value,W.cells? 0 (a.add (i*sz)) sz=some f∧∃y,DataW.trod enc Tryz.prog W 0 (fun _=>true) true m e f=some y:=by
     intro i hi
     have h1:=hget i hi
     rw [List.getElem?_eq_getElem (by omega)] at h1
     obtain ⟨f,h2,h3⟩:=Option.bind_eq_some_iff.1 h1
     exact ⟨f,h2,_,h3⟩
   rcases Nat.eq_zero_or_pos n with h0 | h0
   · subst h0
     exact ⟨some a,0,c,[],m,rfl,⟨Cells.nil _ _,by simp,hle,by simp⟩,fun i hi=>by omega⟩
   · obtain ⟨b,o,sp⟩:=a
     have hsp:sp=none:=by
       obtain ⟨f,h2,_⟩:=each 0 h0
       obtain ⟨_,h3,h4⟩:=World.cells?_some h2
       cases sp with
       | none=>rfl
       | some s=>
         have h5:=h4 0 hsz
         have h6:0<f.length:=by omega
         rw [List.getElem?_eq_getElem h6] at h5
         simp only [Nat.zero_mul,Addr.add,if_true,World.cell?] at h5
         split at h5<;>simp at h5
     subst hsp
     have cell:∀i,i<n→∃f:List Value,f.length=sz∧(∀j,j<sz→W.cell? ⟨b,o+(i*sz+j),none⟩=f[j]?)∧∃y,DataW.trod enc Tryz.prog W 0 (fun _=>true) true m e f=some y:=by
       intro i hi
       obtain ⟨f,h2,h5⟩:=each i hi
       obtain ⟨_,h3,h4⟩:=World.cells?_some h2
       refine ⟨f,h3,fun j hj=>?_,h5⟩
       have:=h4 j hj
       rw [Addr.add_mid,Addr.add_mid] at this
       rw [←Nat.add_assoc];exact this
     refine ⟨some ⟨b,o,none⟩,n,c,(List.range (n*sz)).map fun j=>(W.cell? ⟨b,o+j,none⟩).getD .nilIface,m,rfl,⟨.inr ⟨b,o,rfl,fun j v hj=>?_⟩,by simp,hle,by simp⟩,fun i hi=>?_⟩
     · have hjl:j<n*sz:=by have:=(List.getElem?_eq_some_iff.1 hj).1;simpa using this
       have hi:j / sz<n:=Nat.div_lt_of_lt_mul (by rw [Nat.mul_comm];exact hjl)
       obtain ⟨f,h3,h4,_⟩:=cell (j / sz) hi
       have h5:=h4 (j%sz) (Nat.mod_lt _ hsz)
       rw [show j / sz*sz+j%sz=j by rw [Nat.mul_comm];exact Nat.div_add_mod j sz,List.getElem?_eq_getElem (by rw [h3];exact Nat.mod_lt _ hsz)] at h5
       rw [List.getElem?_map,List.getElem?_range hjl] at hj
       simp only [Option.map_some,h5,Option.getD_some,Option.some.injEq] at hj
       rw [h5,hj]
     · obtain ⟨f,h3,h4,y,h5⟩:=cell i hi
       refine ⟨y,?_⟩
       have hf':(((List.range (n*sz)).map fun j=>(W.cell? ⟨b,o+j,none⟩).getD .nilIface).drop (sz*i)).take sz=f:=by
         apply List.ext_getElem?
         intro j
         rw [List.getElem?_take]
         by_cases hj:j<sz
         · have hlt:sz*i+j<n*sz:=by
             have:sz*i+sz≤sz*n:=by rw [←Nat.mul_succ];exact Nat.mul_le_mul_left _ hi
             rw [Nat.mul_comm n];omega
           rw [if_pos hj,List.getElem?_drop,List.getElem?_map,List.getElem?_range hlt]
           have h6:=h4 j hj
           rw [Nat.mul_comm i,List.getElem?_eq_getElem (by omega)] at h6
           simp only [Option.map_some,h6,Option.getD_some]
           rw [List.getElem?_eq_getElem (by omega)]
         · rw [if_neg hj,List.getElem?_eq_none (by omega)]
       rw [hf'];exact h5

end Go.Proofs.YtpmhjnhgpplmnaaGreatDoor
end

section
namespace Go.Proofs.YtpmhjnhgpplmnaaGreatDoor.Sx
open Go
set_option maxRecDepth 8000

abbrev Res.arr (g:Nat) (T:TypeId) (l:List Value):Res:=.blk g (.cells l.toArray T)

def kv (k:IntKind) (l:List Nat):List Value:=l.map fun (n:Nat)=>.int k (n:Int)
@[simp] theorem Nf (k:IntKind) (l:List Nat):(kv k l).length=l.length:=by simp [kv]
@[simp] theorem Nd (k:IntKind) (a b:List Nat):kv k (a++b)=kv k a++kv k b:=by simp [kv]
theorem uz {k:IntKind} {l:List Nat} {i:Nat} (h:i<l.length):(kv k l)[i]?=some (.int k ((l.getD i 0:Nat):Int)):=by simp [kv,List.getD,h]
theorem Jo (k:IntKind) (l:List Nat) (i n:Nat):(kv k l).set i (.int k (n:Int))=kv k (l.set i n):=by simp [kv,List.map_set]
theorem fK (k:IntKind) (l:List Nat):∀u∈kv k l,u.oneCell'=true:=by
 intro u hu
 simp only [kv,List.mem_map] at hu
 obtain ⟨n,_,rfl⟩:=hu
 rfl
theorem xI (l:List UInt8) (i:Nat) (b:UInt8):(bv l).set i (.int .u8 (b.toNat:Int))=bv (l.set i b):=by simp [bv,List.map_set]
theorem rN {l:List UInt8} {i:Nat} (h:i<l.length):(bv l)[i]?=some (.int .u8 ((l.getD i 0).toNat:Int)):=by rw [FM];simp [List.getD,h]

section
variable {P:Program} {w0 w:World} {X:List Nat} {M:List Res}

theorem St.GH {g:Nat} {o:Obj} (h:w.heap[g]?=some o):St w [g] w [.blk g o]:=by
 have one:∀(i:Nat) (r:Res),[Res.blk g o][i]?=some r→i=0∧r=.blk g o:=by
   intro i r hr
   cases i with
   | zero=>exact ⟨rfl,(Option.some.inj hr).symm⟩
   | succ i=>simp at hr
 refine ⟨Chg.refl _ _,?_,?_,?_⟩
 · intro i r hr;obtain ⟨_,rfl⟩:=one i r hr;exact h
 · intro i r hr k hk;obtain ⟨_,rfl⟩:=one i r hr;exact .inr hk
 · intro i j r s hij hi hj;have:=(one i r hi).1;have:=(one j s hj).1;omega

theorem St.ldL (h:St w0 X w M) {i g o off:Nat} {l:List Value} {T' T:TypeId} {v:Value} (hi:M[i]?=some (.arr g T' l)) (hT:(isAgg T).run P w=.ok false w) (he:off=o) (hv:l[o]?=some v):
   (Instr.loadAt T (.pointer (some ⟨g,off,none⟩))).run P w=.ok v w:=by
 subst he
 exact h.ld hi hT (by simpa using hv)

theorem St.ldK (h:St w0 X w M) {i g o off:Nat} {k:IntKind} {l:List Nat} {T' T:TypeId} (hi:M[i]?=some (.arr g T' (kv k l))) (hT:(isAgg T).run P w=.ok false w) (he:off=o) (ho:o<l.length):
   (Instr.loadAt T (.pointer (some ⟨g,off,none⟩))).run P w=.ok (.int k ((l.getD o 0:Nat):Int)) w:=h.ldL hi hT he (uz ho)

theorem St.ldB (h:St w0 X w M) {i g o off:Nat} {l:List UInt8} {T' T:TypeId} (hi:M[i]?=some (.arr g T' (bv l))) (hT:(isAgg T).run P w=.ok false w) (he:off=o) (ho:o<l.length):
   (Instr.loadAt T (.pointer (some ⟨g,off,none⟩))).run P w=.ok (.int .u8 ((l.getD o 0).toNat:Int)) w:=h.ldL hi hT he (rN ho)

theorem St.stL (h:St w0 X w M) {i g o off:Nat} {l:List Value} {T' T:TypeId} {v:Value} (hi:M[i]?=some (.arr g T' l)) (hT:(sizeOf T).run P w=.ok 1 w) (he:off=o) (ho:o<l.length) (hv:v.oneCell'=true):
   ∃w',(Instr.storeAt T (.pointer (some ⟨g,off,none⟩)) v).run P w=.ok () w'∧St w0 X w' (M.set i (.arr g T' (l.set o v))):=by
 subst he
 obtain ⟨w',hr,h'⟩:=h.st (v:=v) hi hT (by simpa using ho) hv
 exact ⟨w',hr,by simpa using h'⟩

theorem St.stK (h:St w0 X w M) {i g o off:Nat} {k:IntKind} {l:List Nat} {T' T:TypeId} {n:Nat} (hi:M[i]?=some (.arr g T' (kv k l))) (hT:(sizeOf T).run P w=.ok 1 w) (he:off=o) (ho:o<l.length):
   ∃w',(Instr.storeAt T (.pointer (some ⟨g,off,none⟩)) (.int k (n:Int))).run P w=.ok () w'∧St w0 X w' (M.set i (.arr g T' (kv k (l.set o n)))):=by
 obtain ⟨w',hr,h'⟩:=h.stL (v:=.int k (n:Int)) hi hT he (by simpa using ho) rfl
 exact ⟨w',hr,by rw [Jo] at h';exact h'⟩

theorem St.stB (h:St w0 X w M) {i g o off:Nat} {l:List UInt8} {T' T:TypeId} {b:UInt8} (hi:M[i]?=some (.arr g T' (bv l))) (hT:(sizeOf T).run P w=.ok 1 w) (he:off=o) (ho:o<l.length):
   ∃w',(Instr.storeAt T (.pointer (some ⟨g,off,none⟩)) (.int .u8 (b.toNat:Int))).run P w=.ok () w'∧St w0 X w' (M.set i (.arr g T' (bv (l.set o b)))):=by
 obtain ⟨w',hr,h'⟩:=h.stL (v:=.int .u8 (b.toNat:Int)) hi hT he (by simpa using ho) rfl
 exact ⟨w',hr,by rw [xI] at h';exact h'⟩

theorem St.ku (h:St w0 X w M) {i g:Nat} {l:List Value} {T':TypeId} (hi:M[i]?=some (.arr g T' l)):w.rangeAt g 0 l:=by
 intro j v hj
 rw [cell_of_row w g _ _ T' (0,0) (h.holds i _ hi)]
 simpa using hj

theorem St.bQ (h:St w0 X w M) {i g n:Nat} {l:List Value} {T' T:TypeId} (hi:M[i]?=some (.arr g T' l)) (hT:(isAgg T).run P w=.ok true w) (hS:(sizeOf T).run P w=.ok n w) (hl:l.length=n):
   (loadVar T ⟨g,0,none⟩).run P w=.ok (.agg l.toArray) w:=by
 subst hl
 simp [loadVar,hT,hS,cu (P:=P) (h.ku hi)]

theorem St.ldA (h:St w0 X w M) {i g n:Nat} {l:List Value} {T' T:TypeId} (hi:M[i]?=some (.arr g T' l)) (hT:(isAgg T).run P w=.ok true w) (hS:(sizeOf T).run P w=.ok n w) (hl:l.length=n):
   (Instr.loadAt T (.pointer (some ⟨g,0,none⟩))).run P w=.ok (.agg l.toArray) w:=by
 have:=h.bQ hi hT hS hl
 simp [Instr.loadAt,Instr.sureAddr,this]

theorem St.stA (h:St w0 X w M) {i g n:Nat} {l v:List Value} {T' T:TypeId} (hi:M[i]?=some (.arr g T' l)) (hS:(sizeOf T).run P w=.ok n w) (hl:l.length=n) (hv:v.length=n) (h1:∀u∈v,u.oneCell'=true):
   ∃w',(Instr.storeAt T (.pointer (some ⟨g,0,none⟩)) (.agg v.toArray)).run P w=.ok () w'∧St w0 X w' (M.set i (.arr g T' v)):=by
 have hg:=h.holds i _ hi
 have hst:=run_storeCells_at P g 0 T' v 0 l.toArray w hg (by simp;omega) h1
 have hset:(l.toArray.toList.take (0+0)++v++l.toArray.toList.drop (0+0+v.length)).toArray=v.toArray:=by
   simp only [Nat.zero_add,List.take_zero,List.nil_append]
   rw [List.drop_of_length_le (by omega),List.append_nil]
 rw [hset] at hst
 refine ⟨_,?_,h.upd hi (w':=w.setRow g v.toArray) ⟨rfl,rfl,rfl,by simp,fun k _ hk=>setRow_other w g k _ (fun e=>hk (by simp [Res.fp,e]))⟩ (setRow_heap w g _ _ T' _ hg) (by simp [Res.fp])⟩
 simp [Instr.storeAt,Instr.sureAddr,storeVar,hS,Value.cells,hv,hst]

theorem St.cz (h:St w0 X w M) (T:TypeId) (l:List Value):∃g w',(Instr.box T (.agg l.toArray)).run P w=.ok (.pointer (some ⟨g,0,none⟩)) w'∧St w0 X w' (M++ [.arr g T l]):=h.box T (.agg l.toArray)

theorem St.aD (h:St w0 X w M) {T:TypeId} {z:List Value} (hz:∀w,(zeroValue T).run P w=.ok (.agg z.toArray) w):∃g w',(Instr.alloc T true (.tuple #[])).run P w=.ok (.pointer (some ⟨g,0,none⟩)) w'∧St w0 X w' (M++ [.arr g T z]):=h.zero hz

theorem St.rdA (h:St w0 X w M) {i g n:Nat} {l:List Value} {T':TypeId} (hi:M[i]?=some (.arr g T' l)) (hl:l.length=n):Rd w (some ⟨g,0,none⟩) n n 1 l:=
 ⟨.inr ⟨g,0,rfl,h.ku hi⟩,by omega,Nat.le_refl _,by simp⟩

theorem Rd.sub {a a':Option Addr} {n c sz l hh m:Nat} {cs:List Value} (h:Rd w a n c sz cs) (hs:lT sz a l m a') (h1:l≤hh) (h2:hh≤n) (h3:hh≤m) (h4:m≤c):Rd w a' (hh-l) (m-l) sz ((cs.drop (l*sz)).take ((hh-l)*sz)):=by
 have hlen:((cs.drop (l*sz)).take ((hh-l)*sz)).length=(hh-l)*sz:=by
   rw [List.length_take,List.length_drop,h.len,←Nat.sub_mul]
   exact Nat.min_eq_left (Nat.mul_le_mul_right _ (by omega))
 refine ⟨?_,hlen,by omega,?_⟩
 · by_cases hm:m=l
   · left
     have:hh-l=0:=by omega
     simp [this]
   · have ha:=hs.2 hm
     rcases h.cells with h0 | ⟨b,o,rfl,hr⟩
     · left;subst h0;simp
     · right
       refine ⟨b,o+l*sz,by rw [ha];simp [Addr.add_mid],fun j v hj=>?_⟩
       rw [List.getElem?_take] at hj
       split at hj
       · rw [List.getElem?_drop] at hj
         have:=hr _ _ hj
         rw [Nat.add_assoc];exact this
       · cases hj
 · intro hn
   by_cases hm:m=l
   · omega
   · have ha:=hs.2 hm
     rw [hn] at ha
     have:a=none:=by cases a with
       | none=>rfl
       | some x=>simp at ha
     have:=h.nil this
     omega

theorem aC {place:Nat→Option (Nat×Nat)} {i off sz:Nat} {v:Value} {rest:List (Nat×Value)} {cells:Array Value} (hp:place i=some (off,sz)) (hs:v.cells.size=sz) (h:off+sz≤cells.size):
   Instr.fill place cells ((i,v)::rest)=Instr.fill place (cells.toList.take off++v.cells.toList++cells.toList.drop (off+sz)).toArray rest:=by
 have key:∀(vs:List Value) (k:Nat) (cells:Array Value),off+k+vs.length≤cells.size→
     ((vs.zipIdx k).foldl (fun cs (c,j)=>cs.setIfInBounds (off+j) c) cells)=(cells.toList.take (off+k)++vs++cells.toList.drop (off+k+vs.length)).toArray:=by
   intro vs
   induction vs with
   | nil=>intro k cells _;simp
   | cons u vs ih=>
     intro k cells hk
     have hkl:off+k<cells.toList.length:=by simp at hk;simp;omega
     simp only [List.zipIdx_cons,List.foldl_cons]
     rw [ih (k+1) _ (by simp at hk ⊢;omega),Array.toList_setIfInBounds]
     have e1:(cells.toList.set (off+k) u).take (off+(k+1))=cells.toList.take (off+k)++ [u]:=by
       rw [show off+(k+1)=off+k+1 by omega,List.take_add_one,List.take_set,List.set_eq_of_length_le (by rw [List.length_take];omega),List.getElem?_set_self hkl];rfl
     have e2:(cells.toList.set (off+k) u).drop (off+(k+1)+vs.length)=cells.toList.drop (off+k+(u::vs).length):=by
       rw [List.drop_set_of_lt (by omega)]
       congr 1;simp;omega
     rw [e1,e2]
     simp
 subst hs
 have hn:¬(v.cells.size≠v.cells.size∨off+v.cells.size>cells.size):=by omega
 simp only [Instr.fill,hp]
 rw [if_neg (by simpa using hn)]
 congr 1
 rw [←Array.foldl_toList,Array.toList_zipIdx]
 have:=key v.cells.toList 0 cells (by simpa using h)
 simpa using this

theorem fP {T e n:Nat} {z:List Value} (hz:(zeroValue T).run P w=.ok (.agg z.toArray) w) (hT:P.underlying T=some (.array n e)) (hS:(sizeOf e).run P w=.ok 1 w) (vs:List Value) (h1:∀v∈vs,v.oneCell'=true) (hl:vs.length≤z.length):
   (Instr.build T ((vs.zipIdx 0).map fun p=>(p.2,p.1)).toArray).run P w=.ok (.agg (vs++z.drop vs.length).toArray) w:=by
 have hf:∀(vs:List Value) (k:Nat) (cells:Array Value),(∀v∈vs,v.oneCell'=true)→k+vs.length≤cells.size→
     Instr.fill (fun i=>some (i*1,1)) cells ((vs.zipIdx k).map fun p=>(p.2,p.1))=some (cells.toList.take k++vs++cells.toList.drop (k+vs.length)).toArray:=by
   intro vs
   induction vs with
   | nil=>intro k cells _ _;simp [Instr.fill]
   | cons v vs ih=>
     intro k cells h1 hs
     have hc:v.cells= #[v]:=by
       have:=h1 v (by simp)
       cases v<;>first | rfl | (simp [Value.oneCell'] at this)
     have hk:k<cells.size:=by simp at hs;omega
     simp only [List.zipIdx_cons,List.map_cons,Instr.fill,hc]
     have hn:¬(#[v].size≠1∨k*1+ #[v].size>cells.size):=by simp;omega
     rw [if_neg (by simpa using hn)]
     have hf:(#[v].zipIdx.foldl (fun cs (c,j)=>cs.setIfInBounds (k*1+j) c) cells)=cells.setIfInBounds k v:=by simp
     rw [hf,ih (k+1) (cells.setIfInBounds k v) (fun u hu=>h1 u (by simp [hu])) (by simp at hs ⊢;omega)]
     congr 2
     rw [Array.toList_setIfInBounds]
     have hkl:k<cells.toList.length:=by simpa using hk
     have e1:(cells.toList.set k v).take (k+1)=cells.toList.take k++ [v]:=by
       rw [List.take_add_one,List.take_set,List.set_eq_of_length_le (by rw [List.length_take];omega),List.getElem?_set_self hkl];rfl
     have e2:(cells.toList.set k v).drop (k+1+vs.length)=cells.toList.drop (k+(v::vs).length):=by
       rw [List.drop_set_of_lt (by omega)]
       congr 1;simp;omega
     rw [e1,e2]
     simp
 have hf2:=hf vs 0 z.toArray h1 (by simpa using hl)
 simp only [List.take_zero,List.nil_append,Nat.zero_add] at hf2
 have hpl:(fun i=>some (i*1,1):Nat→Option (Nat×Nat))=fun i=>some (i,1):=by funext i;simp
 rw [hpl] at hf2
 simp [Instr.build,hz,run_underlying hT,hS,Value.cells,hf2]

end
theorem BM {P:Program} {w:World} {b o n:Nat} {cs:List Value} {T:TypeId} (h:w.rangeAt b o cs) (hT:(isAgg T).run P w=.ok true w) (hS:(sizeOf T).run P w=.ok n w) (hl:cs.length=n):
   (Instr.loadAt T (.pointer (some ⟨b,o,none⟩))).run P w=.ok (.agg cs.toArray) w:=by
 subst hl
 simp [Instr.loadAt,Instr.sureAddr,loadVar,hT,hS,cu (P:=P) h]

end Go.Proofs.YtpmhjnhgpplmnaaGreatDoor.Sx
end

section
namespace Go.Proofs.YtpmhjnhgpplmnaaGreatDoor
open Go Sx
set_option maxRecDepth 8000

def rotl (x n:Nat):Nat:=(x*2^n%4294967296)||| (x / 2^(32-n))
def bp (a b:Nat):Nat:=(a+b)%4294967296
theorem A1 {x:Nat} (n:Nat) (h:x<4294967296):rotl x n<4294967296:=Nat.or_lt_two_pow (n:=32) (Nat.mod_lt _ (by decide)) (Nat.lt_of_le_of_lt (Nat.div_le_self _ _) h)
theorem dz (a b:Nat):bp a b<4294967296:=Nat.mod_lt _ (by decide)
theorem fW {a b:Nat} (ha:a<4294967296) (hb:b<4294967296):a^^^b<4294967296:=Nat.xor_lt_two_pow (n:=32) ha hb

def cM (l:List Nat):Prop:=∀i,l.getD i 0<4294967296

theorem lP {l:List Nat} {i v:Nat} (h:i<l.length):(l.set i v).getD i 0=v:=by simp [List.getD,h]
theorem getD_set_ne {l:List Nat} {i j v:Nat} (h:i≠j):(l.set i v).getD j 0=l.getD j 0:=by simp [List.getD,List.getElem?_set,h]
theorem cM.set {l:List Nat} (h:cM l) (i:Nat) {v:Nat} (hv:v<4294967296):cM (l.set i v):=by
 intro j
 by_cases e:i=j
 · subst e
   by_cases hi:i<l.length
   · rw [lP hi];exact hv
   · rw [List.set_eq_of_length_le (by omega)];exact h i
 · rw [getD_set_ne e];exact h j

def upTo (l:List UInt8) (i:Nat):List UInt8:=l.take i++List.replicate (l.length-i) 0
@[simp] theorem iB {l:List UInt8} {i:Nat} (h:i≤l.length):(upTo l i).length=l.length:=by simp [upTo];omega
theorem uP (l:List UInt8):upTo l 0=List.replicate l.length 0:=by simp [upTo]
theorem wN (l:List UInt8):upTo l l.length=l:=by simp [upTo]
theorem gU {l:List UInt8} {i:Nat} {b:UInt8} (h:l[i]?=some b):(upTo l i).set i b=upTo l (i+1):=by
 have hi:i<l.length:=(List.getElem?_eq_some_iff.1 h).1
 have hlen:(l.take i).length=i:=by rw [List.length_take];omega
 rw [upTo,upTo,List.set_append_right _ _ (by omega),hlen,Nat.sub_self,show l.length-i=(l.length- (i+1))+1 by omega,List.replicate_succ,List.set_cons_zero,List.take_add_one,h]
 simp

theorem JG (x n:Nat) (hx:x<4294967296) (hn:n<32) (h0:0<n):bor .u32 (gY .u32 (x:Int) ((n:Nat):Int)) (dh .u32 (x:Int) ((32-n:Nat):Int))=((rotl x n:Nat):Int):=by
 rw [A8 rfl _ _ (show n≤32 by omega),mP _ _ _ (show 32-n≤32 by omega),wF rfl (by simp only [eM,IntKind.bits];exact Nat.mod_lt _ (by decide)) (by simp only [eM,IntKind.bits];exact Nat.lt_of_le_of_lt (Nat.div_le_self _ _) hx)]
 rfl

theorem xor_val {a b:Nat} (ha:a<4294967296) (hb:b<4294967296):aU .u32 (a:Int) (b:Int)=((a^^^b:Nat):Int):=nM rfl (by simpa [eM,IntKind.bits] using ha) (by simpa [eM,IntKind.bits] using hb)
theorem dO (a b:Nat):IntKind.wrap .u32 ((a:Int)+(b:Int))=((bp a b:Nat):Int):=by rw [wrap_u32,bp];omega

theorem jH {x n:Nat} (hn:n≤32):gY .u32 (x:Int) ((n:Nat):Int)=((x*2^n%4294967296:Nat):Int):=A8 rfl _ _ hn
theorem or_val {a b:Nat} (ha:a<4294967296) (hb:b<4294967296):bor .u32 (a:Int) (b:Int)=((a||| b:Nat):Int):=wF rfl (by simpa [eM,IntKind.bits] using ha) (by simpa [eM,IntKind.bits] using hb)
theorem cF {n:Nat} (h:n<4294967296):IntKind.wrap .u32 (n:Int)=(n:Int):=oL rfl (by simpa [eM,IntKind.bits] using h)

theorem ix0 {w:World} {a:Option Addr} {n:Nat} {l:List UInt8} {K:Prop} (hc:Cells w a (bv l)) (hn:l.length=n) (j:Nat) (hj:j<n) (hK:∀b o,a=some ⟨b,o,none⟩→(∀w',Cells w' a (bv l)→(Instr.loadAt 5 (.pointer (some ⟨b,o+Int.toNat (j:Int)*1,none⟩))).run Tryz.prog w'=.ok (.int .u8 ((l.getD j 0).toNat:Int)) w')→K):K:=by
 have hv:(bv l)[j]?=some (.int .u8 ((l.getD j 0).toNat:Int)):=rN (by omega)
 obtain ⟨b,o,ha,hcell⟩:=hc.at_ hv
 refine hK b o ha fun w' hc'=>?_
 obtain ⟨b',o',ha',hcell'⟩:=hc'.at_ hv
 rw [ha] at ha'
 simp only [Option.some.injEq,Addr.mk.injEq,and_true] at ha'
 obtain ⟨rfl,rfl⟩:=ha'
 rw [show o+Int.toNat (j:Int)*1=o+j by omega]
 exact ld1 (bA _) hcell'

end Go.Proofs.YtpmhjnhgpplmnaaGreatDoor
end

section
namespace Go.Proofs.YtpmhjnhgpplmnaaGreatDoor
open Go Sx
set_option maxRecDepth 8000

def kL (x n:Nat):Nat:=(x*2^(32-n)%4294967296)||| (x / 2^n)
theorem dG {x:Nat} (n:Nat) (h:x<4294967296):kL x n<4294967296:=Nat.or_lt_two_pow (n:=32) (Nat.mod_lt _ (by decide)) (Nat.lt_of_le_of_lt (Nat.div_le_self _ _) h)
theorem Br {x:Nat} (n:Nat) (h:x<4294967296):x / 2^n<4294967296:=Nat.lt_of_le_of_lt (Nat.div_le_self _ _) h
theorem qG {a:Nat} (b:Nat) (h:a<4294967296):a&&& b<4294967296:=Nat.lt_of_le_of_lt Nat.and_le_left h

def sg0 (x:Nat):Nat:=kL x 7^^^kL x 18^^^(x / 2^3)
def sg1 (x:Nat):Nat:=kL x 17^^^kL x 19^^^(x / 2^10)
def bg0 (x:Nat):Nat:=kL x 2^^^kL x 13^^^kL x 22
def bg1 (x:Nat):Nat:=kL x 6^^^kL x 11^^^kL x 25
def chF (e f g:Nat):Nat:=(e&&& f)^^^((4294967295^^^e)&&& g)
def K6 (a b c:Nat):Nat:=((a&&& b)^^^(a&&& c))^^^(b&&& c)

def be4 (l:List UInt8) (o:Nat):Nat:=(((l.getD o 0).toNat*256+(l.getD (o+1) 0).toNat)*256+(l.getD (o+2) 0).toNat)*256+(l.getD (o+3) 0).toNat
theorem MC (l:List UInt8) (o:Nat):be4 l o<4294967296:=by
 have h0:=(l.getD o 0).toNat_lt
 have h1:=(l.getD (o+1) 0).toNat_lt
 have h2:=(l.getD (o+2) 0).toNat_lt
 have h3:=(l.getD (o+3) 0).toNat_lt
 unfold be4;omega

theorem BB (a b n:Nat) (h:b<2^n):a*2^n||| b=a*2^n+b:=by
 have:=Nat.shiftLeft_add_eq_or_of_lt h a
 rw [Nat.shiftLeft_eq] at this
 exact this.symm

def lM:List Nat:=[1116352408,1899447441,3049323471,3921009573,961987163,1508970993,2453635748,2870763221,3624381080,310598401,607225278,1426881987,1925078388,2162078206,2614888103,3248222580,3835390401,4022224774,264347078,604807628,770255983,1249150122,1555081692,1996064986,2554220882,2821834349,2952996808,3210313671,3336571891,3584528711,113926993,338241895,666307205,773529912,1294757372,1396182291,1695183700,1986661051,2177026350,2456956037,2730485921,2820302411,3259730800,3345764771,3516065817,3600352804,4094571909,275423344,430227734,506948616,659060556,883997877,958139571,1322822218,1537002063,1747873779,1955562222,2024104815,2227730452,2361852424,2428436474,2756734187,3204031479,3329325298]
theorem oa:lM.length=64:=rfl
theorem Cj {l:List Nat} (h:l.all (· <4294967296)=true):cM l:=by
 intro i
 by_cases hi:i<l.length
 · have:=List.all_eq_true.1 h l[i] (List.getElem_mem hi)
   simp only [List.getD,List.getElem?_eq_getElem hi,Option.getD_some]
   simpa using this
 · rw [List.getD,List.getElem?_eq_none (by omega)];decide
def h0L:List Nat:=[1779033703,3144134277,1013904242,2773480762,1359893119,2600822924,528734635,1541459225]
theorem JA:cM h0L:=Cj (by decide)

def De (w:List Nat) (t:Nat):Nat:=bp (bp (bp (sg1 (w.getD (t-2) 0)) (w.getD (t-7) 0)) (sg0 (w.getD (t-15) 0))) (w.getD (t-16) 0)
def bz (b:List UInt8):Nat→List Nat
 | 0=>List.replicate 64 0
 | k+1=>(bz b k).set k (if k<16 then be4 b (4*k) else De (bz b k) k)
@[simp] theorem mE (b:List UInt8):∀k,(bz b k).length=64
 | 0=>by simp [bz]
 | k+1=>by simp [bz,mE b k]
theorem Ik (n:Nat):cM (List.replicate n 0):=by
 intro i
 by_cases h:i<n
 · simp [List.getD,h]
 · rw [List.getD,List.getElem?_eq_none (by simpa using h)];decide
theorem pJ (b:List UInt8):∀k,cM (bz b k)
 | 0=>Ik 64
 | k+1=>by
   refine (pJ b k).set k ?_
   split
   · exact MC _ _
   · exact dz _ _

def rT1 (kt wt:Nat) (v:List Nat):Nat:=bp (bp (bp (bp (v.getD 7 0) (bg1 (v.getD 4 0))) (chF (v.getD 4 0) (v.getD 5 0) (v.getD 6 0))) kt) wt
def rT2 (v:List Nat):Nat:=bp (bg0 (v.getD 0 0)) (K6 (v.getD 0 0) (v.getD 1 0) (v.getD 2 0))
def fZ (kt wt:Nat) (v:List Nat):List Nat:=[bp (rT1 kt wt v) (rT2 v),v.getD 0 0,v.getD 1 0,v.getD 2 0,bp (v.getD 3 0) (rT1 kt wt v),v.getD 4 0,v.getD 5 0,v.getD 6 0]
theorem HO (kt wt:Nat) (v:List Nat):(fZ kt wt v).getD 0 0=bp (bp (bp (bp (bp (v.getD 7 0) (bg1 (v.getD 4 0))) (chF (v.getD 4 0) (v.getD 5 0) (v.getD 6 0))) kt) wt) (bp (bg0 (v.getD 0 0)) (K6 (v.getD 0 0) (v.getD 1 0) (v.getD 2 0))):=by
 simp only [fZ,rT1,rT2,List.getD_cons_zero]
theorem Hj (kt wt:Nat) (v:List Nat):(fZ kt wt v).getD 4 0=bp (v.getD 3 0) (bp (bp (bp (bp (v.getD 7 0) (bg1 (v.getD 4 0))) (chF (v.getD 4 0) (v.getD 5 0) (v.getD 6 0))) kt) wt):=by
 simp only [fZ,rT1,List.getD_cons_zero,List.getD_cons_succ]
theorem Hu (kt wt:Nat) (v:List Nat):(fZ kt wt v).getD 1 0=v.getD 0 0∧(fZ kt wt v).getD 2 0=v.getD 1 0∧(fZ kt wt v).getD 3 0=v.getD 2 0∧(fZ kt wt v).getD 5 0=v.getD 4 0∧(fZ kt wt v).getD 6 0=v.getD 5 0∧(fZ kt wt v).getD 7 0=v.getD 6 0:=by
 simp only [fZ,List.getD_cons_zero,List.getD_cons_succ,and_self]
def rounds (w v:List Nat):Nat→List Nat
 | 0=>v
 | t+1=>fZ (lM.getD t 0) (w.getD t 0) (rounds w v t)
theorem mK (w:List Nat) {v:List Nat} (h:v.length=8):∀t,(rounds w v t).length=8
 | 0=>h
 | t+1=>by simp [rounds,fZ]
theorem Cp {l:List Nat} (h:∀x∈l,x<4294967296):cM l:=by
 intro i
 by_cases hi:i<l.length
 · have:=h l[i] (List.getElem_mem hi)
   simp only [List.getD,List.getElem?_eq_getElem hi,Option.getD_some]
   exact this
 · rw [List.getD,List.getElem?_eq_none (by omega)];decide
theorem IJ (kt wt:Nat) {v:List Nat} (h:cM v):cM (fZ kt wt v):=by
 apply Cp
 intro x hx
 simp only [fZ,List.mem_cons,List.not_mem_nil,or_false] at hx
 rcases hx with rfl | rfl | rfl | rfl | rfl | rfl | rfl | rfl
 · exact dz _ _
 · exact h 0
 · exact h 1
 · exact h 2
 · exact dz _ _
 · exact h 4
 · exact h 5
 · exact h 6
theorem uK (w:List Nat) {v:List Nat} (h:cM v):∀t,cM (rounds w v t)
 | 0=>h
 | t+1=>IJ _ _ (uK w h t)

theorem Bb {x y:List Nat} (hx:x.length=8) (hy:y.length=8):(List.zipWith bp x y).length=8:=by simp [hx,hy]
theorem BS {x y:List Nat} (hx:x.length=8) (hy:y.length=8) {i:Nat} (hi:i<8):(List.zipWith bp x y)[i]?=some (bp (x.getD i 0) (y.getD i 0)):=by
 simp [List.getElem?_zipWith,List.getD,show i<x.length by omega,show i<y.length by omega]

def compress (h:List Nat) (b:List UInt8):List Nat:=List.zipWith bp h (rounds (bz b 64) h 64)
theorem mL {h:List Nat} (hl:h.length=8) (b:List UInt8):(compress h b).length=8:=Bb hl (mK (bz b 64) hl 64)
theorem AZ {h:List Nat} (hl:h.length=8) (b:List UInt8) {i:Nat} (hi:i<8):(compress h b)[i]?=some (bp (h.getD i 0) ((rounds (bz b 64) h 64).getD i 0)):=BS hl (mK (bz b 64) hl 64) hi
theorem Da {h:List Nat} (hl:h.length=8) (b:List UInt8):cM (compress h b):=by
 intro i
 by_cases hi:i<8
 · rw [List.getD,AZ hl b hi];exact dz _ _
 · rw [List.getD,List.getElem?_eq_none (by rw [mL hl];omega)];decide

def dF:Nat→List Nat→List UInt8→List Nat
 | 0,h,_=>h
 | k+1,h,l=>dF k (compress h (l.take 64)) (l.drop 64)
theorem lF:∀(k:Nat) {h:List Nat} (l:List UInt8),h.length=8→(dF k h l).length=8
 | 0,_,_,h=>h
 | k+1,_,l,h=>lF k _ (mL h _)
theorem ry:∀(k:Nat) {h:List Nat} (l:List UInt8),h.length=8→cM h→cM (dF k h l)
 | 0,_,_,_,h=>h
 | k+1,_,l,hl,h=>ry k _ (mL hl _) (Da hl _)
theorem mY:∀(k:Nat) (h:List Nat) (l:List UInt8),dF (k+1) h l=compress (dF k h l) ((l.drop (64*k)).take 64)
 | 0,h,l=>by simp [dF]
 | k+1,h,l=>by
   rw [dF,mY k,List.drop_drop,dF,show 64+64*k=64*(k+1) by omega]
theorem nR:∀(k:Nat) (h:List Nat) (l m:List UInt8),64*k≤l.length→dF k h (l++m)=dF k h l
 | 0,_,_,_,_=>rfl
 | k+1,h,l,m,hk=>by
   rw [dF,dF,List.take_append_of_le_length (by omega),List.drop_append_of_le_length (by omega),nR k _ _ _ (by simp;omega)]

def hOf (m:List UInt8):List Nat:=dF (m.length / 64) h0L m
def rOf (m:List UInt8):List UInt8:=m.drop (64*(m.length / 64))
theorem mN (m:List UInt8):(hOf m).length=8:=lF _ _ rfl
theorem JB (m:List UInt8):cM (hOf m):=ry _ _ rfl JA
theorem wH (m:List UInt8):(rOf m).length=m.length%64:=by simp [rOf];omega
theorem F4 {m b:List UInt8} (h:m.length%64+b.length<64):hOf (m++b)=hOf m∧rOf (m++b)=rOf m++b:=by
 have e:(m++b).length / 64=m.length / 64:=by rw [List.length_append];omega
 refine ⟨?_,?_⟩
 · rw [hOf,e,nR _ _ _ _ (by omega)];rfl
 · rw [rOf,e,List.drop_append_of_le_length (by omega)];rfl

theorem Ce {m b:List UInt8} (h:m.length%64+b.length=64):hOf (m++b)=compress (hOf m) (rOf m++b)∧rOf (m++b)=[]:=by
 have e:(m++b).length / 64=m.length / 64+1:=by rw [List.length_append];omega
 have hr:=wH m
 refine ⟨?_,?_⟩
 · rw [hOf,e,mY,nR _ _ _ _ (by omega),List.drop_append_of_le_length (by omega)]
   show compress _ ((rOf m++b).take 64)=_
   rw [List.take_of_length_le (by rw [List.length_append];omega)]
   rfl
 · rw [rOf,e,List.drop_of_length_le (by rw [List.length_append];omega)]

def uk (h:List Nat) (i:Nat):UInt8:=UInt8.ofNat (h.getD (i / 4) 0 / 2^(24-8*(i%4))%256)
def j9 (h:List Nat):List UInt8:=(List.range 32).map (uk h)
@[simp] theorem tu (h:List Nat):(j9 h).length=32:=by simp [j9]
theorem om (h:List Nat) {i:Nat} (hi:i<32):(j9 h)[i]?=some (uk h i):=by simp [j9,hi]

def bB (n i:Nat):UInt8:=UInt8.ofNat (n*8%18446744073709551616 / 2^(56-8*i)%256)
def bq (n:Nat):Nat:=(119-n%64)%64
def lH (n:Nat):List UInt8:=0x80::(List.replicate (bq n) 0++(List.range 8).map (bB n))
theorem xZ (n:Nat):(lH n).length=9+bq n:=by simp [lH];omega
theorem tZ (n:Nat):bq n<64:=Nat.mod_lt _ (by decide)
theorem J2 (n:Nat):(n+(lH n).length)%64=0:=by rw [xZ,bq];omega

def dI (m:List UInt8):List UInt8:=j9 (hOf (m++lH m.length))
@[simp] theorem Db (m:List UInt8):(dI m).length=32:=by simp [dI]

def iC (key:List UInt8):List UInt8:=let k:=if 64<key.length then dI key else key;k++List.replicate (64-k.length) 0
theorem sK (key:List UInt8):(iC key).length=64:=by
 simp only [iC]
 split<;>simp<;>omega
def dx (key m:List UInt8):List UInt8:=dI ((iC key).map (· ^^^0x5c)++dI ((iC key).map (· ^^^0x36)++m))
@[simp] theorem oV (key m:List UInt8):(dx key m).length=32:=by simp [dx]

def tF (prk info:List UInt8):Nat→List UInt8
 | 0=>[]
 | i+1=>dx prk (tF prk info i++info++ [UInt8.ofNat (i+1)])
def qi (prk info:List UInt8):Nat→List UInt8
 | 0=>[]
 | i+1=>qi prk info i++tF prk info (i+1)
@[simp] theorem Ek (prk info:List UInt8):∀i,(qi prk info i).length=32*i
 | 0=>rfl
 | i+1=>by simp [qi,tF,Ek prk info i];omega
def iz (salt secret info:List UInt8) (n:Nat):List UInt8:=(qi (dx salt secret) info ((n+31) / 32)).take n
theorem D2 (salt secret info:List UInt8) (n:Nat):(iz salt secret info n).length=n:=by simp [iz];omega

end Go.Proofs.YtpmhjnhgpplmnaaGreatDoor
end

section
namespace Go.Proofs.YtpmhjnhgpplmnaaGreatDoor.Sx
open Go
set_option maxRecDepth 8000

def zK (n:Nat) (k:Kd→Nat→TC):TC:=match n%16 with
 | 0=>k (.int .i64) (n / 16)
 | 1=>k (.int .u8) (n / 16)
 | 2=>k (.int .u32) (n / 16)
 | 3=>k (.int .u64) (n / 16)
 | 4=>k .bool (n / 16)
 | 5=>k .str (n / 16)
 | 6=>k .ptr (n / 16)
 | 7=>k .slice (n / 16)
 | 8=>k .agg (n / 16)
 | _=>k .val (n / 16)
def zN:Nat→Nat→(Nat→Nat→TC)→TC
 | 0,n,k=>k 0 n
 | f+1,n,k=>bif Nat.blt (n%16) 8 then k (n%16) (n / 16) else zN f (n / 16) fun m n'=>k (n%16-8+8*m) n'
def zKs:Nat→Nat→(List Kd→Nat→TC)→TC
 | 0,n,k=>k [] n
 | c+1,n,k=>zK n fun a n=>zKs c n fun l n=>k (a::l) n
def zNs:Nat→Nat→(List Nat→Nat→TC)→TC
 | 0,n,k=>k [] n
 | c+1,n,k=>zN 99 n fun a n=>zNs c n fun l n=>k (a::l) n
def zL:Nat→Nat→(List (Nat×Nat)→Nat→TC)→TC
 | 0,n,k=>k [] n
 | c+1,n,k=>zN 99 n fun a n=>zN 99 n fun b n=>zL c n fun l n=>k ((a,b)::l) n
def zR (n:Nat) (k:List Nat→Nat→TC):TC:=zN 99 n fun c n=>zL c n fun l n=>k (lr l) n
def zT (n:Nat) (k:Tag→Nat→TC):TC:=match n%16 with
 | 0=>k .p (n / 16)
 | 1=>zK (n / 16) fun a n=>k (.ld a) n
 | 2=>zK (n / 16) fun a n=>k (.r a) n
 | 3=>k .bx (n / 16)
 | 4=>k .u (n / 16)
 | 5=>k .ix (n / 16)
 | 6=>k .sl (n / 16)
 | 7=>k .sc (n / 16)
 | 8=>zN 99 (n / 16) fun c n=>zKs c n fun l n=>k (.cl l) n
 | 9=>zN 99 (n / 16) fun c n=>zKs c n fun l n=>k (.rt l) n
 | 10=>k .nx (n / 16)
 | 11=>zN 99 (n / 16) fun c n=>zKs c n fun l n=>k (.cv l) n
 | 12=>zN 99 (n / 16) fun c n=>zKs c n fun l n=>k (.cm l) n
 | 13=>zK (n / 16) fun a n=>k (.cx a) n
 | _=>k .nc (n / 16)
def zO:Nat→Nat→(TL→Nat→TC)→TC
 | 0,n,k=>k .nil n
 | f+1,n,k=>match n%16 with
   | 0=>k .nil (n / 16)
   | 1=>zO f (n / 16) fun r n=>k (.op .p r) n
   | 2=>zN 99 (n / 16) fun c n=>zO f n fun r n=>k (.pp c r) n
   | 3=>zK (n / 16) fun a n=>zO f n fun r n=>k (.op (.ld a) r) n
   | 4=>zN 99 (n / 16) fun c n=>zKs c n fun l n=>zO f n fun r n=>k (.op (.cl l) r) n
   | 5=>zK (n / 16) fun a n=>zO f n fun r n=>k (.op (.r a) r) n
   | 6=>zO f (n / 16) fun r n=>k (.op .u r) n
   | 7=>zO f (n / 16) fun r n=>k (.op .bx r) n
   | 8=>zO f (n / 16) fun r n=>k (.op .ix r) n
   | 9=>zO f (n / 16) fun r n=>k (.op .sl r) n
   | 10=>zT (n / 16) fun t n=>zO f n fun r n=>k (.op t r) n
   | 11=>zN 99 (n / 16) fun c n=>zO f n fun r n=>k (.ap c r) n
   | 12=>zN 99 (n / 16) fun c n=>zO f n fun a n=>zO f n fun b n=>k (.sp c a b) n
   | 13=>zO f (n / 16) fun r n=>k (.op .p (.op .p r)) n
   | 14=>zO f (n / 16) fun r n=>k (.op .p (.op .p (.op .p r))) n
   | _=>k .nil (n / 16)
def zM:Nat→Nat→(ML→Nat→TC)→TC
 | 0,n,k=>k .nil n
 | f+1,n,k=>match n%16 with
   | 0=>k .nil (n / 16)
   | 1=>zN 99 (n / 16) fun i n=>zT n fun t n=>zM f n fun r n=>k (.tk i t r) n
   | 2=>zN 99 (n / 16) fun c n=>zNs c n fun l n=>zM f n fun r n=>k (.tks l r) n
   | 3=>zN 99 (n / 16) fun i n=>zK n fun a n=>zM f n fun r n=>k (.ts i a r) n
   | 4=>zN 99 (n / 16) fun i n=>zT n fun t n=>zM f n fun r n=>k (.go i t r) n
   | 5=>zN 99 (n / 16) fun s n=>zM f n fun a n=>zM f n fun b n=>k (.sp s a b) n
   | 6=>zN 99 (n / 16) fun i n=>zT n fun t n=>zM f n fun a n=>zN 99 n fun j n=>zT n fun t2 n=>zM f n fun b n=>k (.two i t a j t2 b) n
   | _=>k .nil (n / 16)
def zC:Nat→Nat→(TC→Nat→TC)→TC
 | 0,n,k=>k .leaf n
 | f+1,n,k=>match n%16 with
   | 0=>k .leaf (n / 16)
   | 1=>zO 999 (n / 16) fun t n=>k (.reg t) n
   | 2=>zC f (n / 16) fun a n=>zC f n fun b n=>k (.seq a b) n
   | 3=>zC f (n / 16) fun a n=>zC f n fun b n=>k (.cond a b) n
   | 4=>zM 999 (n / 16) fun t n=>zR n fun l n=>k (.draw t l) n
   | 5=>zM 999 (n / 16) fun t n=>zR n fun l n=>k (.KD t l) n
   | 6=>zC f (n / 16) fun a n=>k (.ct a) n
   | 7=>zC f (n / 16) fun a n=>k (.cf a) n
   | 8=>zC f (n / 16) fun a n=>k (.blk a) n
   | 9=>zR (n / 16) fun l n=>zR n fun m n=>zN 99 n fun c n=>zKs c n fun ks n=>zC f n fun a n=>k (.loop l m ks a) n
   | 10=>zR (n / 16) fun l n=>zR n fun m n=>zN 99 n fun c n=>zKs c n fun ks n=>zC f n fun a n=>k (.join l m ks a) n
   | 11=>zN 99 (n / 16) fun c n=>k (.rg c) n
   | 12=>zO 999 (n / 16) fun t n=>zC f n fun b n=>k (.seq (.reg t) b) n
   | 13=>zN 99 (n / 16) fun c n=>zC f n fun b n=>k (.seq (.rg c) b) n
   | _=>k .leaf (n / 16)
def zP (n:Nat):TC:=zC 999 n fun t _=>t

theorem af {P:Program} {f:FuncId} {fn:Func} (c:Nat) {args:List Value} {w:World} {R:Ending→World→Prop} {V:Prop} (hf:P.funcs[f]?=some fn)
   (hV:((P.follows .mixedOrders&&fn.body.isSome&&cC (List.range fn.ntmps) fn.ntmps (fn.body.getD .skip)&&Nat.ble args.length fn.ntmps),evC P fn.ntmps (zP c) (fn.body.getD .skip) (vC 0 args) w (K3 P fn R))=(true,V)) (h:V):Calls P f args.toArray w R:=
 BO hf (congrArg Prod.fst hV) (congrArg Prod.snd hV) h

abbrev LdQ (T g o:Nat) (v:Value) (w:World):Prop:=(Instr.loadAt T (.pointer (some ⟨g,o,none⟩))).run Tryz.prog w=.ok v w
abbrev StQ (T g o:Nat) (v:Value) (w w':World):Prop:=(Instr.storeAt T (.pointer (some ⟨g,o,none⟩)) v).run Tryz.prog w=.ok () w'
abbrev AlQ (T g:Nat) (w w':World):Prop:=(Instr.alloc T true (.tuple #[])).run Tryz.prog w=.ok (.pointer (some ⟨g,0,none⟩)) w'
abbrev Ifz (c:Bool) (A B:Prop):Prop:=(c=true→A)∧(c=false→B)
abbrev Liz (T g o:Nat) (w:World) (k:Int→Prop):Prop:=∃t,LdQ T g o (.int .i64 t) w∧k t
abbrev Lkz (i:IntKind) (T g o:Nat) (w:World) (k:Int→Prop):Prop:=∃t,LdQ T g o (.int i t) w∧k t
abbrev Laz (T g o:Nat) (w:World) (k:Array Value→Prop):Prop:=∃t,LdQ T g o (.agg t) w∧k t
abbrev Lsz (T g o:Nat) (w:World) (k:ByteArray→Prop):Prop:=∃t,LdQ T g o (.string t) w∧k t
abbrev Lbz (T g o:Nat) (w:World) (k:Bool→Prop):Prop:=∃t,LdQ T g o (.bool t) w∧k t
abbrev Llz (T g o:Nat) (w:World) (k:Option Addr→Nat→Nat→Prop):Prop:=∃a n c,LdQ T g o (.slice a n c) w∧k a n c
abbrev Lpz (T g o:Nat) (w:World) (k:Nat→Nat→Prop):Prop:=∃a b,LdQ T g o (.pointer (some ⟨a,b,none⟩)) w∧k a b
abbrev Stz (T g o:Nat) (v:Value) (w:World) (k:World→Prop):Prop:=∃w',StQ T g o v w w'∧k w'
abbrev Alz (T:Nat) (w:World) (k:Nat→World→Prop):Prop:=∃g w',AlQ T g w w'∧k g w'
abbrev Bsz (T n:Nat) (l:Array (Nat×Value)) (w:World) (k:Option Addr→Nat→Nat→World→Prop):Prop:=∃a n' c w',(Instr.buildSlice T n l).run Tryz.prog w=.ok (.slice a n' c) w'∧k a n' c w'
abbrev Mkz (T:Nat) (u v:Value) (w:World) (k:Option Addr→Nat→Nat→World→Prop):Prop:=∃a n' c w',(Instr.makeSlice T u v).run Tryz.prog w=.ok (.slice a n' c) w'∧k a n' c w'
abbrev Cvz (S T:Nat) (v:Value) (w:World) (k:Option Addr→Nat→Nat→World→Prop):Prop:=∃a n' c w',(convert S T v).run Tryz.prog w=.ok (.slice a n' c) w'∧k a n' c w'
abbrev Apz (T:Nat) (u v:Value) (w:World) (k:Option Addr→Nat→Nat→World→Prop):Prop:=∃a n' c w',(Builtin.append_ #[T,T] T #[u,v]).run Tryz.prog w=.ok (.slice a n' c) w'∧k a n' c w'
abbrev Bxz (T:Nat) (v:Value) (w:World) (k:Nat→World→Prop):Prop:=∃g w',(Instr.box T v).run Tryz.prog w=.ok (.pointer (some ⟨g,0,none⟩)) w'∧k g w'
abbrev Nez (o:BinOp) (T:Nat) (x:Operand) (v:Value) (w:World) (k:Bool→Prop):Prop:=∃t,(fF o T x (.const .nilIface) v .nilIface).run Tryz.prog w=.ok (.bool t) w∧k t
abbrev Eqz (o:BinOp) (T:Nat) (x y:Operand) (u v:Value) (w:World) (k:Bool→Prop):Prop:=∃t,(fF o T x y u v).run Tryz.prog w=.ok (.bool t) w∧k t
abbrev Buz (T:Nat) (l:Array (Nat×Value)) (w:World) (k:Array Value→Prop):Prop:=∃t,(Instr.build T l).run Tryz.prog w=.ok (.agg t) w∧k t
abbrev Caz (n:Nat) (l:Array Value) (w:World) (k:Array Value→World→Prop):Prop:=Calls Tryz.prog n l w fun e w'=>∃t,e=.returned (.agg t)∧k t w'
abbrev Csz (n:Nat) (l:Array Value) (w:World) (k:ByteArray→World→Prop):Prop:=Calls Tryz.prog n l w fun e w'=>∃t,e=.returned (.string t)∧k t w'
abbrev Cbz (n:Nat) (l:Array Value) (w:World) (k:Bool→World→Prop):Prop:=Calls Tryz.prog n l w fun e w'=>∃t,e=.returned (.bool t)∧k t w'
abbrev Ciz (n:Nat) (l:Array Value) (w:World) (k:Int→World→Prop):Prop:=Calls Tryz.prog n l w fun e w'=>∃t,e=.returned (.int .i64 t)∧k t w'
abbrev Cvv (n:Nat) (l:Array Value) (w:World) (k:Value→World→Prop):Prop:=Calls Tryz.prog n l w fun e w'=>∃t,e=.returned t∧k t w'
abbrev Clz (n:Nat) (l:Array Value) (w:World) (k:Option Addr→Nat→Nat→World→Prop):Prop:=Calls Tryz.prog n l w fun e w'=>∃a n c,e=.returned (.slice a n c)∧k a n c w'
abbrev C2z (n:Nat) (l:Array Value) (w:World) (k:Value→Value→World→Prop):Prop:=Calls Tryz.prog n l w fun e w'=>∃t u,e=.returned (.tuple #[t,u])∧k t u w'
abbrev C3z (n:Nat) (l:Array Value) (w:World) (k:Array Value→Value→World→Prop):Prop:=Calls Tryz.prog n l w fun e w'=>∃t u,e=.returned (.tuple #[.agg t,u])∧k t u w'
abbrev C4z (n:Nat) (l:Array Value) (w:World) (k:Option Addr→Nat→Nat→Value→World→Prop):Prop:=Calls Tryz.prog n l w fun e w'=>∃a n c u,e=.returned (.tuple #[.slice a n c,u])∧k a n c u w'
end Go.Proofs.YtpmhjnhgpplmnaaGreatDoor.Sx
end
