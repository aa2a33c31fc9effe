/- The core of a verification-condition reckoner: for each code of the model a proposition without frames ('evC'), and the proof that it gives the model's 'wp' (conditions: none; any program). -/
import Derived.WalkKit
import Derived.Deep.Draws
import Derived.Orders
namespace Go.Proofs.Ytdcgapabphjgbaa.Sx
open Go
set_option maxRecDepth 8000

/-- The kinds of values that are told apart. -/
inductive Kd where
  | int (k : IntKind) | bool | str | ptr | slice | agg | val

/-- What is known of the slots: the newest word first; 'none': nothing is known. -/
abbrev Env := List (Nat × Option Value)

def look : Env → Nat → Option Value
  | [], _ => none
  | (t, v) :: r, s => bif Nat.beq t s then v else look r s

def lk (env : Env) : Operand → Option Value
  | .tmp t => look env t
  | .const v => some v
  | .global g => some (.pointer (some ⟨g, 0, none⟩))
  | .func f => some (.func (.func f) #[] #[])

def lks (env : Env) : List Operand → Option (List Value)
  | [] => some []
  | x :: r => match lk env x, lks env r with
    | some v, some vs => some (v :: vs)
    | _, _ => none

def put (env : Env) (d : Option Tmp) (v : Value) : Env := match d with
  | some s => (s, some v) :: env
  | none => env

def dOk (N : Nat) : Option Tmp → Bool
  | some s => Nat.blt s N
  | none => true

structure Agr (env : Env) (N : Nat) (a : Act) (df : List Deferred) : Prop where
  defers : a.defers = df
  size : a.tmps.size = N
  at_ : ∀ s v, look env s = some v → a.tmps[s]? = some v

section
variable {df : List Deferred}

theorem Agr.eval {env : Env} {N : Nat} {a : Act} (h : Agr env N a df) {x : Operand} {v : Value} (hx : lk env x = some v) : a.eval x = v := by
  cases x with
  | tmp t =>
    have := h.at_ t v hx
    simp [Act.eval, this]
  | const u => simpa [lk, Act.eval] using hx
  | global g => simpa [lk, Act.eval] using hx
  | func f => simpa [lk, Act.eval] using hx

theorem Agr.evals {env : Env} {N : Nat} {a : Act} (h : Agr env N a df) : ∀ {xs : List Operand} {vs : List Value}, lks env xs = some vs → xs.map a.eval = vs
  | [], vs, hx => by simpa [lks] using hx
  | x :: r, vs, hx => by
    simp only [lks] at hx
    split at hx
    · rename_i v us h1 h2
      simp only [Option.some.injEq] at hx
      subst hx
      simp [h.eval h1, h.evals h2]
    · cases hx

theorem Agr.put {env : Env} {N : Nat} {a : Act} (h : Agr env N a df) {d : Option Tmp} (hd : dOk N d = true) (v : Value) : Agr (put env d v) N (a.put d v) df := by
  cases d with
  | none => exact h
  | some s =>
    have hs : s < N := by simpa [dOk] using hd
    refine ⟨h.defers, by simp [Act.put, h.size], fun t u ht => ?_⟩
    simp only [Sx.put, look] at ht
    simp only [Act.put, Array.getElem?_setIfInBounds, h.size]
    by_cases e : s = t
    · subst e
      simp at ht
      simp [hs, ht]
    · have hb : Nat.beq s t = false := by
        cases hbe : Nat.beq s t with
        | false => rfl
        | true => exact absurd (Nat.eq_of_beq_eq_true hbe) e
      rw [hb] at ht
      simp only [cond_false] at ht
      simpa [e] using h.at_ t u ht

/-- Some slots are forgotten. -/
def forget : List Nat → Env → Env
  | [], env => env
  | s :: r, env => (s, none) :: forget r env

theorem look_forget {env : Env} {s : Nat} {v : Value} : ∀ {asg : List Nat}, look (forget asg env) s = some v → look env s = some v ∧ s ∉ asg
  | [], h => ⟨h, by simp⟩
  | t :: r, h => by
    simp only [forget, look] at h
    cases hb : Nat.beq t s with
    | true => rw [hb] at h; simp at h
    | false =>
      rw [hb] at h
      simp only [cond_false] at h
      obtain ⟨h1, h2⟩ := look_forget h
      refine ⟨h1, ?_⟩
      simp only [List.mem_cons, not_or]
      refine ⟨fun e => ?_, h2⟩
      subst e
      simp at hb

theorem Agr.forget {env : Env} {N : Nat} {a : Act} (h : Agr env N a df) (asg : List Nat) : Agr (forget asg env) N a df :=
  ⟨h.defers, h.size, fun s v hs => h.at_ s v (look_forget hs).1⟩

end

/-! ### Values of operations that read no memory -/

def band (k : IntKind) (a b : Int) : Int := k.wrap ((BitVec.ofInt k.bits a &&& BitVec.ofInt k.bits b).toNat : Int)
def bor (k : IntKind) (a b : Int) : Int := k.wrap ((BitVec.ofInt k.bits a ||| BitVec.ofInt k.bits b).toNat : Int)
def bxor (k : IntKind) (a b : Int) : Int := k.wrap ((BitVec.ofInt k.bits a ^^^ BitVec.ofInt k.bits b).toNat : Int)
def bandn (k : IntKind) (a b : Int) : Int := k.wrap ((BitVec.ofInt k.bits a &&& ~~~ BitVec.ofInt k.bits b).toNat : Int)

def binI (op : BinOp) (k : IntKind) (a b : Int) : Option Value :=
  match op with
  | .add => some (.int k (k.wrap (a + b)))
  | .sub => some (.int k (k.wrap (a - b)))
  | .mul => some (.int k (k.wrap (a * b)))
  | .quo => if b = 0 then none else some (.int k (k.wrap (a.tdiv b)))
  | .rem => if b = 0 then none else some (.int k (a.tmod b))
  | .and => some (.int k (band k a b))
  | .or => some (.int k (bor k a b))
  | .xor => some (.int k (bxor k a b))
  | .andNot => some (.int k (bandn k a b))
  | .eql => some (.bool (a == b))
  | .neq => some (.bool (a != b))
  | .lss => some (.bool (decide (a < b)))
  | .leq => some (.bool (decide (a ≤ b)))
  | .gtr => some (.bool (decide (a > b)))
  | .geq => some (.bool (decide (a ≥ b)))
  | _ => none

def shlI (k : IntKind) (a b : Int) : Int := k.wrap (a * 2 ^ (min b.toNat k.bits))
def shrI (k : IntKind) (a b : Int) : Int := a.fdiv (2 ^ (min b.toNat k.bits))

def isNilC : Operand → Bool
  | .const .nilIface => true
  | _ => false

def binV (P : Program) (op : BinOp) (t : TypeId) (xc : Bool) (x y : Value) : Option Value :=
  match x, y with
  | .int k a, .int k' b => match op with
    | .shl => if b < 0 then none else some (.int k (shlI k a b))
    | .shr => if b < 0 then none else some (.int k (shrI k a b))
    | _ => if k = k' then binI op k a b else none
  | .string a, .string b => match op with
    | .eql => some (.bool (a.toList == b.toList))
    | .neq => some (.bool !(a.toList == b.toList))
    | _ => none
  | .bool a, .bool b => match P.underlying t with
    | some .bool => match op with
      | .eql => some (.bool (a == b))
      | .neq => some (.bool !(a == b))
      | _ => none
    | _ => none
  | .slice a _ _, .slice none _ _ => match P.underlying t with
    | some (.slice _) => match op with
      | .eql => some (.bool a.isNone)
      | .neq => some (.bool !a.isNone)
      | _ => none
    | _ => none
  | .pointer a, .pointer none => match P.underlying t with
    | some (.pointer _) => match op with
      | .eql => some (.bool a.isNone)
      | .neq => some (.bool !a.isNone)
      | _ => none
    | _ => none
  | .iface _ _, .nilIface => match P.underlying t with
    | some (.interface _) => match op with
      | .eql => some (.bool false)
      | .neq => some (.bool true)
      | _ => none
    | _ => none
  | .nilIface, .nilIface => bif xc then match P.underlying t with
    | some (.interface _) => match op with
      | .eql => some (.bool true)
      | .neq => some (.bool false)
      | _ => none
    | _ => none else none
  | .iface tx (.int k a), .iface ty (.int k' b) => match P.underlying t, P.underlying tx, P.info? tx with
    | some (.interface _), some (.int _), some inf => bif Nat.beq tx ty && inf.comparable then
        if k = k' then match op with
          | .eql => some (.bool (a == b))
          | .neq => some (.bool !(a == b))
          | _ => none
        else none
      else none
    | _, _, _ => none
  | _, _ => none

def asrtV (P : Program) (t : TypeId) (x : Value) : Option Value :=
  match P.underlying t with
  | some (.interface _) => none
  | some _ => match x with
    | .iface u v => if u = t then some (.tuple #[v, .bool true]) else none
    | .nilIface => match P.info? t with
      | some inf => match inf.zero with
        | some z => some (.tuple #[z, .bool false])
        | none => none
      | none => none
    | _ => none
  | none => none

def unV (op : UnOp) (x : Value) : Option Value :=
  match op, x with
  | .neg, .int k n => some (.int k (k.wrap (0 - n)))
  | .xor, .int k n => some (.int k (bxor k (if k.signed then -1 else k.max) n))
  | .not, .bool b => some (.bool !b)
  | _, _ => none

def convV (P : Program) (s d : TypeId) (x : Value) : Option Value :=
  match P.underlying s, P.underlying d, x with
  | some (.int _), some (.int k), .int _ n => some (.int k (k.wrap n))
  | some .string, some .string, .string b => some (.string b)
  | _, _, _ => none

def pickV (c : Bool) (x y : Value) : Value :=
  match x, y with
  | .bool p, .bool q => .bool (bif c then p else q)
  | _, _ => bif c then x else y

def lenV (P : Program) (t : TypeId) (x : Value) : Option Value :=
  match P.underlying t, x with
  | some .string, .string s => some (.int .i64 s.size)
  | some (.slice _), .slice _ n _ => some (.int .i64 n)
  | some (.array n _), _ => some (.int .i64 n)
  | _, _ => none

def capV (P : Program) (t : TypeId) (x : Value) : Option Value :=
  match P.underlying t, x with
  | some (.slice _), .slice _ _ c => some (.int .i64 c)
  | _, _ => none

def minV (x y : Value) : Option Value := match x, y with
  | .int k a, .int _ b => some (.int k (if b < a then b else a))
  | _, _ => none
def maxV (x y : Value) : Option Value := match x, y with
  | .int k a, .int _ b => some (.int k (if a < b then b else a))
  | _, _ => none

def at0 (a : Addr) (n : Nat) : Option Value := match a with
  | ⟨b, o, none⟩ => some (.pointer (some ⟨b, o + n, none⟩))
  | _ => none

/-- The value of an operation that reads no memory and has no side condition; none: not of this kind. -/
def pv (P : Program) (env : Env) (o : Oper) : Option Value :=
  match o.op with
  | .move x => lk env x
  | .assign x => lk env x
  | .pick c a b => match lk env c, lk env a, lk env b with
    | some (.bool c), some x, some y => some (pickV c x y)
    | _, _, _ => none
  | .binOp op t x y _ => match lk env x, lk env y with
    | some a, some b => binV P op t (isNilC x || isNilC y) a b
    | _, _ => none
  | .unOp op _ x => match lk env x with
    | some a => unV op a
    | _ => none
  | .convert s d x => match lk env x with
    | some a => convV P s d a
    | _ => none
  | .makeInterface t x => match P.underlying t, lk env x with
    | some (.interface _), _ => none
    | some _, some a => some (.iface t a)
    | _, _ => none
  | .extract t i => match lk env t with
    | some (.tuple vs) => vs[i]?
    | _ => none
  | .typeAssert x _ t true => match lk env x with
    | some v => asrtV P t v
    | none => none
  | .nilCheck x => match lk env x with
    | some (.pointer (some a)) => some (.pointer (some a))
    | _ => none
  | .fieldAddr t x f => match P.underlying t, lk env x with
    | some (.struct fs), some (.pointer (some a)) => match fs[f]? with
      | some fd => match P.info? fd.type with
        | some i => bif Nat.beq i.size 0 then none else at0 a fd.offset
        | none => none
      | none => none
    | _, _ => none
  | .indexAddr t x i => match P.underlying t, lk env x, lk env i with
    | some (.array len e), some (.pointer (some a)), some (.int _ n) => match P.info? e with
      | some inf => if 0 ≤ n ∧ n < (len : Int) then at0 a (n.toNat * inf.size) else none
      | none => none
    | _, _, _ => none
  | .call c => match c.callee, c.args.toList, c.argTypes.toList with
    | .builtin .len, [x], [t] => match lk env x with
      | some a => lenV P t a
      | none => none
    | .builtin .cap, [x], [t] => match lk env x with
      | some a => capV P t a
      | none => none
    | .builtin .min, [x, y], _ => match lk env x, lk env y with
      | some a, some b => minV a b
      | _, _ => none
    | .builtin .max, [x, y], _ => match lk env x, lk env y with
      | some a, some b => maxV a b
      | _, _ => none
    | _, _, _ => none
  | _ => none

section
variable {P : Program} {env : Env} {N : Nat} {a : Act} {w : World} {df : List Deferred}

theorem binI_run {op : BinOp} {t : TypeId} {k : IntKind} {x y : Int} {v : Value} (h : binI op k x y = some v) : (binOp op t (.int k x) (.int k y)).run P w = .ok v w := by
  cases op <;> simp only [binI, Option.some.injEq, reduceCtorEq] at h
  all_goals first
    | (subst h; simp [binOp, Op.intArith, Op.intBits, Op.intCmp, band, bor, bxor, bandn]; done)
    | (split at h
       · cases h
       · rename_i hne; simp only [Option.some.injEq] at h; subst h; simp [binOp, Op.intDiv, hne])

theorem equal_of {t : TypeId} {x y : Value} {b : Bool} (h : ∀ d, (Op.equalIn (d + 1) t x y).run P w = .ok b w) : (Op.equal t x y).run P w = .ok b w := h 9999

theorem eql_of {t : TypeId} {x y : Value} {b : Bool} (hx : ∀ k n, x ≠ .int k n) (hf : ∀ k n, x ≠ .float k n) (hc : ∀ k n m, x ≠ .complex k n m) (hs : ∀ n, x ≠ .string n)
    (h : ∀ d, (Op.equalIn (d + 1) t x y).run P w = .ok b w) : (binOp .eql t x y).run P w = .ok (.bool b) w := by
  have he : binOp .eql t x y = (do pure (.bool (← Op.equal t x y)) : Sem Value) := by
    unfold binOp
    split <;> first | rfl | (exfalso; simp_all; done) | skip
  rw [he]
  simp only [Sem.run_bind, equal_of h, Result.andThen_ok]
  rfl

theorem neq_of {t : TypeId} {x y : Value} {b : Bool} (hx : ∀ k n, x ≠ .int k n) (hf : ∀ k n, x ≠ .float k n) (hc : ∀ k n m, x ≠ .complex k n m) (hs : ∀ n, x ≠ .string n)
    (h : ∀ d, (Op.equalIn (d + 1) t x y).run P w = .ok b w) : (binOp .neq t x y).run P w = .ok (.bool !b) w := by
  have he : binOp .neq t x y = (do pure (.bool (!(← Op.equal t x y))) : Sem Value) := by
    unfold binOp
    split <;> first | rfl | (exfalso; simp_all; done) | skip
  rw [he]
  simp only [Sem.run_bind, equal_of h, Result.andThen_ok]
  rfl

theorem binV_run {op : BinOp} {t : TypeId} {x y : Operand} {u v r : Value} (h : binV P op t (isNilC x || isNilC y) u v = some r) :
    (do eqGuard op t x y u v; binOp op t u v : Sem Value).run P w = .ok r w := by
  unfold binV at h
  split at h
  · rename_i k a k' b
    have hg : ∀ (p q : Int), (eqGuard op t x y (.int k p) (.int k' q)).run P w = .ok () w := by
      intro p q; unfold eqGuard; cases op <;> rfl
    simp only [Sem.run_bind, hg, Result.andThen_ok]
    split at h
    · split at h
      · cases h
      · rename_i hn; simp only [Option.some.injEq] at h; subst h; simp [binOp, Op.shift, hn, shlI]
    · split at h
      · cases h
      · rename_i hn; simp only [Option.some.injEq] at h; subst h; simp [binOp, Op.shift, hn, shrI]
    · split at h
      · rename_i hk; subst hk; exact binI_run h
      · cases h
  · rename_i a b
    have hg : (eqGuard op t x y (.string a) (.string b)).run P w = .ok () w := by unfold eqGuard; cases op <;> rfl
    simp only [Sem.run_bind, hg, Result.andThen_ok]
    split at h <;> first | (simp only [Option.some.injEq] at h; subst h; simp [binOp, Op.stringOp]) | cases h
  · rename_i a b
    have hg : (eqGuard op t x y (.bool a) (.bool b)).run P w = .ok () w := by unfold eqGuard; cases op <;> rfl
    simp only [Sem.run_bind, hg, Result.andThen_ok]
    split at h
    · rename_i hu
      have H : ∀ d, (Op.equalIn (d + 1) t (.bool a) (.bool b)).run P w = .ok (a == b) w := fun d => by simp [Op.equalIn, run_underlying hu]
      split at h <;> first | (simp only [Option.some.injEq] at h; subst h; first | exact eql_of (by simp) (by simp) (by simp) (by simp) H | exact neq_of (by simp) (by simp) (by simp) (by simp) H) | cases h
    · cases h
  · rename_i a n c n' c'
    have hg : (eqGuard op t x y (.slice a n c) (.slice none n' c')).run P w = .ok () w := by unfold eqGuard; cases op <;> rfl
    simp only [Sem.run_bind, hg, Result.andThen_ok]
    split at h
    · rename_i hu
      have H : ∀ d, (Op.equalIn (d + 1) t (.slice a n c) (.slice none n' c')).run P w = .ok a.isNone w := fun d => by cases a <;> simp [Op.equalIn, run_underlying hu]
      split at h <;> first | (simp only [Option.some.injEq] at h; subst h; first | exact eql_of (by simp) (by simp) (by simp) (by simp) H | exact neq_of (by simp) (by simp) (by simp) (by simp) H) | cases h
    · cases h
  · rename_i a
    have hg : (eqGuard op t x y (.pointer a) (.pointer none)).run P w = .ok () w := by unfold eqGuard; cases op <;> rfl
    simp only [Sem.run_bind, hg, Result.andThen_ok]
    split at h
    · rename_i hu
      have H : ∀ d, (Op.equalIn (d + 1) t (.pointer a) (.pointer none)).run P w = .ok a.isNone w := fun d => by cases a <;> simp [Op.equalIn, run_underlying hu]
      split at h <;> first | (simp only [Option.some.injEq] at h; subst h; first | exact eql_of (by simp) (by simp) (by simp) (by simp) H | exact neq_of (by simp) (by simp) (by simp) (by simp) H) | cases h
    · cases h
  · rename_i tt vv
    have hg : (eqGuard op t x y (.iface tt vv) .nilIface).run P w = .ok () w := by unfold eqGuard; cases op <;> rfl
    simp only [Sem.run_bind, hg, Result.andThen_ok]
    split at h
    · rename_i hu
      have H : ∀ d, (Op.equalIn (d + 1) t (.iface tt vv) .nilIface).run P w = .ok false w := fun d => by simp [Op.equalIn, run_underlying hu]
      split at h <;> first | (simp only [Option.some.injEq] at h; subst h; first | exact eql_of (by simp) (by simp) (by simp) (by simp) H | exact neq_of (by simp) (by simp) (by simp) (by simp) H) | cases h
    · cases h
  · cases hc : (isNilC x || isNilC y) with
    | false => rw [hc] at h; simp at h
    | true =>
      rw [hc] at h
      simp only [cond_true] at h
      split at h
      · rename_i hu
        have hxy : ∀ z : Operand, isNilC z = true → ∃ c, z = .const c := by
          intro z hz; cases z <;> simp [isNilC] at hz ⊢
        have hg : (eqGuard op t x y .nilIface .nilIface).run P w = .ok () w := by
          simp only [Bool.or_eq_true] at hc
          rcases hc with hz | hz
          · obtain ⟨c, rfl⟩ := hxy _ hz; unfold eqGuard; cases op <;> rfl
          · obtain ⟨c, rfl⟩ := hxy _ hz; unfold eqGuard; cases op <;> cases x <;> rfl
        simp only [Sem.run_bind, hg, Result.andThen_ok]
        have H : ∀ d, (Op.equalIn (d + 1) t .nilIface .nilIface).run P w = .ok true w := fun d => by simp [Op.equalIn, run_underlying hu]
        split at h <;> first | (simp only [Option.some.injEq] at h; subst h; first | exact eql_of (by simp) (by simp) (by simp) (by simp) H | exact neq_of (by simp) (by simp) (by simp) (by simp) H) | cases h
      · cases h
  · rename_i tx k a ty k' b
    have hg : (eqGuard op t x y (.iface tx (.int k a)) (.iface ty (.int k' b))).run P w = .ok () w := by unfold eqGuard; cases op <;> rfl
    simp only [Sem.run_bind, hg, Result.andThen_ok]
    split at h
    · rename_i ms kk inf hu hx hi
      cases hb : (Nat.beq tx ty && inf.comparable) with
      | false => rw [hb] at h; cases h
      | true =>
        rw [hb] at h
        simp only [cond_true] at h
        simp only [Bool.and_eq_true] at hb
        have e := Nat.eq_of_beq_eq_true hb.1
        subst e
        split at h
        · rename_i hk
          subst hk
          have H : ∀ d, (Op.equalIn (d + 2) t (.iface tx (.int k a)) (.iface tx (.int k b))).run P w = .ok (a == b) w := fun d => by
            simp [Op.equalIn, run_underlying hu, run_underlying hx, typeInfo, hi, hb.2]
          have E : (Op.equal t (.iface tx (.int k a)) (.iface tx (.int k b))).run P w = .ok (a == b) w := H 9998
          split at h <;> first | (simp only [Option.some.injEq] at h; subst h; simp [binOp, E]) | cases h
        · cases h
    · cases h
  · cases h

theorem at0_eq {ad : Addr} {n : Nat} {v : Value} (h : at0 ad n = some v) : v = .pointer (some (ad.add n)) := by
  unfold at0 at h
  split at h
  · simp only [Option.some.injEq] at h; rw [← h, Addr.add_lit]
  · cases h

theorem opVal {o : Oper} {s : Sem Value} {v : Value} {w' : World} (he : execOp a.eval o = (do pure (.value (← s)))) (h : s.run P w = .ok v w') : (execOp a.eval o).run P w = .ok (.value v) w' := by
  rw [he]; simp [h]

/-- What 'pv' says is what the model does, in whatever world. -/
theorem pv_run {o : Oper} {v : Value} (hA : Agr env N a df) (h : pv P env o = some v) : (execOp a.eval o).run P w = .ok (.value v) w := by
  unfold pv at h
  split at h
  · rename_i x ho; unfold execOp; simp [ho, hA.eval h]
  · rename_i x ho; unfold execOp; simp [ho, hA.eval h]
  · rename_i c x y ho
    split at h
    · rename_i c' x' y' h1 h2 h3
      simp only [Option.some.injEq] at h
      subst h
      unfold execOp
      simp only [ho, hA.eval h1, hA.eval h2, hA.eval h3, asBool]
      cases c' <;> (unfold pickV; split <;> simp_all)
    · cases h
  · rename_i op t x y yt ho
    split at h
    · rename_i x' y' h1 h2
      refine opVal (s := do eqGuard op t x y (a.eval x) (a.eval y); binOp op t (a.eval x) (a.eval y)) (by unfold execOp; simp [ho]) ?_
      rw [hA.eval h1, hA.eval h2]
      exact binV_run h
    · cases h
  · rename_i op t x ho
    split at h
    · rename_i x' h1
      refine opVal (s := Op.unary op (a.eval x)) (by unfold execOp; simp [ho]) ?_
      rw [hA.eval h1]
      unfold unV at h
      split at h <;> first | (simp only [Option.some.injEq] at h; subst h; simp [Op.unary, Op.intArith, Op.intBits, bxor]) | cases h
    · cases h
  · rename_i s d x ho
    split at h
    · rename_i x' h1
      refine opVal (s := convert s d (a.eval x)) (by unfold execOp; simp [ho]) ?_
      rw [hA.eval h1]
      unfold convV at h
      split at h
      · rename_i h2 h3; simp only [Option.some.injEq] at h; subst h; simp [convert, run_underlying h2, run_underlying h3, Conv.intToInt]
      · rename_i h2 h3; simp only [Option.some.injEq] at h; subst h; simp [convert, run_underlying h2, run_underlying h3]
      · cases h
    · cases h
  · rename_i t x ho
    split at h
    · cases h
    · rename_i d x' hni h2 h1
      simp only [Option.some.injEq] at h
      subst h
      refine opVal (s := Instr.makeInterface t (a.eval x)) (by unfold execOp; simp [ho]) ?_
      rw [hA.eval h1]
      have hd : ∀ ms, d ≠ .interface ms := fun ms e => hni ms e
      unfold Instr.makeInterface
      simp only [Sem.run_bind, run_underlying h2, Result.andThen_ok]
      rfl
    · cases h
  · rename_i t i ho
    split at h
    · rename_i vs h1
      refine opVal (s := Instr.extract (a.eval t) i) (by unfold execOp; simp [ho]) ?_
      rw [hA.eval h1]
      simp [Instr.extract, h]
    · cases h
  · rename_i x tx t ho
    split at h
    · rename_i v' h1
      refine opVal (s := Instr.typeAssert (a.eval x) tx t true) (by unfold execOp; simp [ho]) ?_
      rw [hA.eval h1]
      unfold asrtV at h
      split at h
      · cases h
      · rename_i d hni h2
        have hd : ∀ ms, d ≠ .interface ms := fun ms e => hni ms e
        split at h
        · rename_i u v2
          split at h
          · rename_i hu
            subst hu
            simp only [Option.some.injEq] at h
            subst h
            cases d <;> first | exact absurd rfl (hd _) | simp [Instr.typeAssert, run_underlying h2]
          · cases h
        · split at h
          · rename_i inf hi
            split at h
            · rename_i z hz
              simp only [Option.some.injEq] at h
              subst h
              cases d <;> first | exact absurd rfl (hd _) | simp [Instr.typeAssert, run_underlying h2, zeroValue, typeInfo, hi, hz]
            · cases h
          · cases h
        · cases h
      · cases h
    · cases h
  · rename_i x ho
    split at h
    · rename_i ad h1
      simp only [Option.some.injEq] at h
      subst h
      unfold execOp
      simp [ho, hA.eval h1]
    · cases h
  · rename_i t x f ho
    split at h
    · rename_i fs ad h2 h1
      split at h
      · rename_i fd hf
        split at h
        · rename_i inf hi
          cases hz : Nat.beq inf.size 0 with
          | true => rw [hz] at h; simp at h
          | false =>
            rw [hz] at h
            simp only [cond_false] at h
            have hne : inf.size ≠ 0 := fun e => by rw [e] at hz; simp at hz
            refine opVal (s := Instr.fieldAt t (a.eval x) f) (by unfold execOp; simp [ho]) ?_
            rw [hA.eval h1, at0_eq h]
            simp [Instr.fieldAt, run_underlying h2, hf, Instr.sureAddr, fieldPlace, sizeOf, typeInfo, hi, hne]
        · cases h
      · cases h
    · cases h
  · rename_i t x i ho
    split at h
    · rename_i len e ad k n h2 h1 h3
      split at h
      · rename_i inf hi
        split at h
        · rename_i hin
          refine opVal (s := Instr.indexAt t (a.eval x) (a.eval i)) (by unfold execOp; simp [ho]) ?_
          rw [hA.eval h1, hA.eval h3, at0_eq h]
          simp [Instr.indexAt, asIntOf, run_underlying h2, Instr.sureAddr, hin, sizeOf, typeInfo, hi]
        · cases h
      · cases h
    · cases h
  · rename_i c ho
    split at h
    · rename_i x t hc hx ht
      split at h
      · rename_i x' h1
        have hxa : c.args = #[x] := by rw [← hx]
        have hta : c.argTypes = #[t] := by rw [← ht]
        refine opVal (s := Builtin.len_ #[t] o.type #[x']) (by unfold execOp; simp [ho, resolve, hc, invoke, builtin, hxa, hta, hA.eval h1]) ?_
        unfold lenV at h
        split at h
        · rename_i s h2; simp only [Option.some.injEq] at h; subst h; simp [Builtin.len_, run_underlying h2, goInt]
        · rename_i h2; simp only [Option.some.injEq] at h; subst h; simp [Builtin.len_, run_underlying h2, goInt]
        · rename_i h2; simp only [Option.some.injEq] at h; subst h; simp [Builtin.len_, run_underlying h2, goInt]
        · cases h
      · cases h
    · rename_i x t hc hx ht
      split at h
      · rename_i x' h1
        have hxa : c.args = #[x] := by rw [← hx]
        have hta : c.argTypes = #[t] := by rw [← ht]
        refine opVal (s := Builtin.cap_ #[t] o.type #[x']) (by unfold execOp; simp [ho, resolve, hc, invoke, builtin, hxa, hta, hA.eval h1]) ?_
        unfold capV at h
        split at h
        · rename_i h2; simp only [Option.some.injEq] at h; subst h; simp [Builtin.cap_, run_underlying h2, goInt]
        · cases h
      · cases h
    · rename_i x y hc hx
      split at h
      · rename_i x' y' h1 h2
        have hxa : c.args = #[x, y] := by rw [← hx]
        refine opVal (s := Builtin.min_ c.argTypes o.type #[x', y']) (by unfold execOp; simp [ho, resolve, hc, invoke, builtin, hxa, hA.eval h1, hA.eval h2]) ?_
        unfold minV at h
        split at h
        · simp only [Option.some.injEq] at h; subst h; simp [Builtin.min_, Builtin.min2]
        · cases h
      · cases h
    · rename_i x y hc hx
      split at h
      · rename_i x' y' h1 h2
        have hxa : c.args = #[x, y] := by rw [← hx]
        refine opVal (s := Builtin.max_ c.argTypes o.type #[x', y']) (by unfold execOp; simp [ho, resolve, hc, invoke, builtin, hxa, hA.eval h1, hA.eval h2]) ?_
        unfold maxV at h
        split at h
        · simp only [Option.some.injEq] at h; subst h; simp [Builtin.max_, Builtin.max2]
        · cases h
      · cases h
    · cases h
  · cases h

end
end Go.Proofs.Ytdcgapabphjgbaa.Sx
