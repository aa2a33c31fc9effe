/- The verification conditions of operations, regions and codes ('evTag', 'evOps', 'evC'), and that they give the model's 'wp' (conditions: none; any program). -/
import Derived.Test.YtdcgapabphjgbaaSxCore
namespace Go.Proofs.Ytdcgapabphjgbaa.Sx
open Go
set_option maxRecDepth 8000

variable {df : List Deferred}

inductive Tag where
  | p | ld (k : Kd) | r (k : Kd) | bx | u | ix | sl | sc | cl (ks : List Kd) | rt (ks : List Kd) | nx | cv (ks : List Kd) | cx (k : Kd) | nc

def exKd : Kd → (Value → Prop) → Prop
  | .int k, F => ∃ n : Int, F (.int k n)
  | .bool, F => ∃ b : Bool, F (.bool b)
  | .str, F => ∃ s : ByteArray, F (.string s)
  | .ptr, F => ∃ b o : Nat, F (.pointer (some ⟨b, o, none⟩))
  | .slice, F => ∃ (a : Option Addr) (n c : Nat), F (.slice a n c)
  | .agg, F => ∃ cs : Array Value, F (.agg cs)
  | .val, F => ∃ v : Value, F v

theorem exKd_imp {k : Kd} {F : Value → Prop} (h : exKd k F) : ∃ v, F v := by
  cases k <;> simp only [exKd] at h
  case ptr => obtain ⟨b, o, h⟩ := h; exact ⟨_, h⟩
  case slice => obtain ⟨b, o, c, h⟩ := h; exact ⟨_, h⟩
  all_goals (obtain ⟨v, h⟩ := h; exact ⟨_, h⟩)

def exKs : List Kd → (List Value → Prop) → Prop
  | [], F => F []
  | k :: ks, F => exKd k fun v => exKs ks fun vs => F (v :: vs)

theorem exKs_imp : ∀ {ks : List Kd} {F : List Value → Prop}, exKs ks F → ∃ vs, F vs
  | [], _, h => ⟨[], h⟩
  | k :: ks, F, h => by
    obtain ⟨v, h⟩ := exKd_imp h
    obtain ⟨vs, h⟩ := exKs_imp h
    exact ⟨_, h⟩

def pack : List Value → Value
  | [v] => v
  | vs => .tuple vs.toArray

/-- '==' of two values, with the model's own guard. -/
def eqlS (op : BinOp) (t : TypeId) (x y : Operand) (u v : Value) : Sem Value := do eqGuard op t x y u v; binOp op t u v

def lkp (env : Env) : List (Nat × Operand) → Option (List (Nat × Value))
  | [] => some []
  | (i, x) :: r => match lk env x, lkp env r with
    | some v, some vs => some ((i, v) :: vs)
    | _, _ => none

theorem Agr.evalp {env : Env} {N : Nat} {a : Act} (h : Agr env N a df) : ∀ {xs : List (Nat × Operand)} {vs : List (Nat × Value)}, lkp env xs = some vs → xs.map (fun (i, x) => (i, a.eval x)) = vs
  | [], vs, hx => by simpa [lkp] using hx
  | (i, x) :: r, vs, hx => by
    simp only [lkp] at hx
    split at hx
    · rename_i v us h1 h2
      simp only [Option.some.injEq] at hx
      subst hx
      simp [h.eval h1, h.evalp h2]
    · cases hx

/-- The model's sentence of an operation that yields a value. -/
def semV (env : Env) (o : Oper) : Option (Sem Value) :=
  match o.op with
  | .load t x => match lk env x with
    | some v => some (Instr.loadAt t v)
    | none => none
  | .box e x => match lk env x with
    | some v => some (Instr.box e v)
    | none => none
  | .alloc e => some (Instr.alloc e true (.tuple #[]))
  | .build t ps => match lkp env ps.toList with
    | some vs => some (Instr.build t vs.toArray)
    | none => none
  | .buildSlice t n ps => match lkp env ps.toList with
    | some vs => some (Instr.buildSlice t n vs.toArray)
    | none => none
  | .convert s d x => match lk env x with
    | some v => some (convert s d v)
    | none => none
  | .makeSlice t l c => match lk env l, lk env c with
    | some u, some v => some (Instr.makeSlice t u v)
    | _, _ => none
  | .binOp op t x y _ => match lk env x, lk env y with
    | some u, some v => some (eqlS op t x y u v)
    | _, _ => none
  | .index t x i => match lk env x, lk env i with
    | some u, some v => some (Instr.index t u v)
    | _, _ => none
  | .field t x f => match lk env x with
    | some v => some (Instr.field t v f)
    | none => none
  | .fieldAddr t x f => match lk env x with
    | some v => some (Instr.fieldAt t v f)
    | none => none
  | .typeAssert x t u ok => match lk env x with
    | some v => some (Instr.typeAssert v t u ok)
    | none => none
  | .makeMap t none => some (Instr.makeMap t none)
  | .lookup t x i ok => match lk env x, lk env i with
    | some u, some v => some (Instr.lookup t u v ok)
    | _, _ => none
  | .sliceToArrayPointer t x => match lk env x with
    | some v => some (Instr.arrayAt t v)
    | none => none
  | .call c => match c.callee, lks env c.args.toList with
    | .builtin .append, some vs => some (Builtin.append_ c.argTypes o.type vs.toArray)
    | .builtin .copy, some vs => some (Builtin.copy_ c.argTypes o.type vs.toArray)
    | .builtin .len, some vs => some (Builtin.len_ c.argTypes o.type vs.toArray)
    | .builtin .min, some vs => some (Builtin.min_ c.argTypes o.type vs.toArray)
    | .builtin .max, some vs => some (Builtin.max_ c.argTypes o.type vs.toArray)
    | .builtin .delete, some vs => some (Builtin.delete_ c.argTypes o.type vs.toArray)
    | .builtin .clear, some vs => some (Builtin.clear_ c.argTypes o.type vs.toArray)
    | _, _ => none
  | .range t x => match lk env x with
    | some v => some (Instr.range t v)
    | none => none
  | .next x s => match lk env x with
    | some v => some (Instr.next v s o.type)
    | none => none
  | .entry x => match lk env x with
    | some v => some (Instr.entry v)
    | none => none
  | .makeFunc fn f c => match lks env f.toList, lks env c.toList with
    | some us, some vs => some (Instr.makeFunc fn us.toArray vs.toArray)
    | _, _ => none
  | _ => none

def semU (env : Env) (o : Oper) : Option (Sem Unit) :=
  match o.op with
  | .store t x y => match lk env x, lk env y with
    | some u, some v => some (Instr.storeAt t u v)
    | _, _ => none
  | .mapUpdate t m k x => match lk env m, lk env k, lk env x with
    | some u, some v, some y => some (Instr.mapUpdate t u v y)
    | _, _, _ => none
  | .insert t m k x => match lk env m, lk env k, lk env x with
    | some u, some v, some y => some (Instr.mapUpdate t u v y)
    | _, _, _ => none
  | _ => none

def scV (env : Env) (o : Oper) : Option (Prop × Value) :=
  match o.op with
  | .binOp op _ x y _ => match lk env x, lk env y with
    | some (.int k a), some (.int k' b) => match op with
      | .shl => some (0 ≤ b, .int k (shlI k a b))
      | .shr => some (0 ≤ b, .int k (shrI k a b))
      | .quo => if k = k' then some (b ≠ 0, .int k (k.wrap (a.tdiv b))) else none
      | .rem => if k = k' then some (b ≠ 0, .int k (a.tmod b)) else none
      | _ => none
    | _, _ => none
  | _ => none

def SubA (sz : Nat) (a : Option Addr) (l m : Nat) (a' : Option Addr) : Prop := (m = l → a' = a) ∧ (m ≠ l → a' = a.map (·.add (l * sz)))

def slK (sz : Nat) (a : Option Addr) (cap : Nat) (lo : Option Int) (hi : Int) (mx : Option Int) (K : Value → Prop) : Prop :=
  match lo, mx with
  | none, none => 0 ≤ hi ∧ hi ≤ (cap : Int) ∧ K (.slice a hi.toNat cap)
  | some l, none => 0 ≤ l ∧ l ≤ hi ∧ hi ≤ (cap : Int) ∧ ∀ a', SubA sz a l.toNat cap a' → K (.slice a' (hi.toNat - l.toNat) (cap - l.toNat))
  | none, some m => 0 ≤ hi ∧ hi ≤ m ∧ m ≤ (cap : Int) ∧ K (.slice a hi.toNat m.toNat)
  | some l, some m => 0 ≤ l ∧ l ≤ hi ∧ hi ≤ m ∧ m ≤ (cap : Int) ∧ ∀ a', SubA sz a l.toNat m.toNat a' → K (.slice a' (hi.toNat - l.toNat) (m.toNat - l.toNat))

/-- A bound of a slice expression: not there; there, an int; else. -/
inductive Bd where
  | no | int (n : Int) | bad

def bd (env : Env) : Option Operand → Bd
  | none => .no
  | some x => match lk env x with
    | some (.int _ n) => .int n
    | _ => .bad

def slE (P : Program) (env : Env) (t : TypeId) (x : Operand) (lo hi mx : Option Operand) (K : Value → Prop) : Prop :=
  match bd env lo, bd env hi, bd env mx with
  | .bad, _, _ => False
  | _, .bad, _ => False
  | _, _, .bad => False
  | l, h, m =>
    let lo' : Option Int := match l with | .int n => some n | _ => none
    let mx' : Option Int := match m with | .int n => some n | _ => none
    match P.underlying t, lk env x with
    | some (.slice e), some (.slice a n c) => match P.info? e, h, m with
      | some inf, .int h', _ => slK inf.size a c lo' h' mx' K
      | some inf, .no, .no => slK inf.size a c lo' n none K
      | _, _, _ => False
    | some (.array n e), some (.pointer (some ad)) => match P.info? e, h, m with
      | some inf, .int h', _ => slK inf.size (some ad) n lo' h' mx' K
      | some inf, .no, .no => slK inf.size (some ad) n lo' n none K
      | _, _, _ => False
    | some .string, some (.string s) => match h, m with
      | .int h', .no => match lo' with
        | none => 0 ≤ h' ∧ h' ≤ (s.size : Int) ∧ K (.string (s.extract 0 h'.toNat))
        | some l' => 0 ≤ l' ∧ l' ≤ h' ∧ h' ≤ (s.size : Int) ∧ K (.string (s.extract l'.toNat h'.toNat))
      | .no, .no => match lo' with
        | none => K (.string (s.extract 0 s.size))
        | some l' => 0 ≤ l' ∧ l' ≤ (s.size : Int) ∧ K (.string (s.extract l'.toNat s.size))
      | _, _ => False
    | _, _ => False

def goesIn (P : Program) (n : Nat) : Bool := match P.funcs[n]? with
  | some fn => fn.body.isSome && !(fn.name == "runtime.NumGoroutine")
  | none => false

/-- The verification condition of an operation that reads no memory: a value, the same in every world. -/
def evVal (P : Program) (tag : Tag) (o : Oper) (env : Env) (K : Value → Prop) : Prop :=
  match tag with
  | .p => match pv P env o with
    | some v => K v
    | none => False
  | .ix => match o.op with
    | .indexAddr t x i => match P.underlying t, lk env x, lk env i with
      | some (.slice e), some (.slice a n _), some (.int _ j) => match P.info? e with
        | some inf => ∃ b f, a = some ⟨b, f, none⟩ ∧ 0 ≤ j ∧ j < (n : Int) ∧ K (.pointer (some ⟨b, f + j.toNat * inf.size, none⟩))
        | none => False
      | some (.array len e), some (.pointer (some ⟨b, f, none⟩)), some (.int _ j) => match P.info? e with
        | some inf => 0 ≤ j ∧ j < (len : Int) ∧ K (.pointer (some ⟨b, f + j.toNat * inf.size, none⟩))
        | none => False
      | _, _, _ => False
    | _ => False
  | .sl => match o.op with
    | .slice t x lo hi mx => slE P env t x lo hi mx K
    | _ => False
  | .sc => match scV env o with
    | some (c, v) => c ∧ K v
    | none => False
  | .nc => match o.op with
    | .nilCheck x => match lk env x with
      | some v => ∃ b f, v = .pointer (some ⟨b, f, none⟩) ∧ K (.pointer (some ⟨b, f, none⟩))
      | none => False
    | _ => False
  | _ => False

/-- The verification condition of one operation. -/
def evTag (P : Program) (tag : Tag) (o : Oper) (env : Env) (w : World) (K : Env → World → Prop) : Prop :=
  match tag with
  | .ld k => match semV env o with
    | some s => exKd k fun v => s.run P w = .ok v w ∧ K (put env o.dst v) w
    | none => False
  | .r k => match semV env o with
    | some s => exKd k fun v => ∃ w', s.run P w = .ok v w' ∧ K (put env o.dst v) w'
    | none => False
  | .bx => match semV env o with
    | some s => ∃ g w', s.run P w = .ok (.pointer (some ⟨g, 0, none⟩)) w' ∧ K (put env o.dst (.pointer (some ⟨g, 0, none⟩))) w'
    | none => False
  | .u => match semU env o with
    | some s => ∃ w', s.run P w = .ok () w' ∧ K (put env o.dst undef) w'
    | none => False
  | .cl ks => match o.op with
    | .call c => match c.callee, lks env c.args.toList with
      | .value f, some vs => match lk env f with
        | some (.func (.func n) ⟨[]⟩ ⟨cb⟩) => bif goesIn P n then Calls P n (vs ++ cb).toArray w fun e w' => exKs ks fun rs => e = .returned (pack rs) ∧ K (put env o.dst (pack rs)) w' else False
        | _ => False
      | _, _ => False
    | _ => False
  | .rt ks => match semV env o with
    | some s => exKs ks fun rs => ∃ w', s.run P w = .ok (.tuple rs.toArray) w' ∧ K (put env o.dst (.tuple rs.toArray)) w'
    | none => False
  | .nx => match semV env o with
    | some s => ∃ (b : Bool) (rest : List Value) (w' : World), s.run P w = .ok (.tuple ⟨.bool b :: rest⟩) w' ∧ K (put env o.dst (.tuple ⟨.bool b :: rest⟩)) w'
    | none => False
  | .cv ks => match o.op with
    | .call c => match c.callee, lks env c.args.toList with
      | .value f, some vs => match lk env f with
        | some fv => ∃ (n : Nat) (cb : List Value), fv = .func (.func n) ⟨[]⟩ ⟨cb⟩ ∧ goesIn P n = true ∧ Calls P n (vs ++ cb).toArray w fun e w' => exKs ks fun rs => e = .returned (pack rs) ∧ K (put env o.dst (pack rs)) w'
        | none => False
      | _, _ => False
    | _ => False
  | .cx k => match o.op with
    | .call c => match c.callee, lks env c.args.toList with
      | .value f, some vs => match lk env f with
        | some (.func (.func n) ⟨[]⟩ ⟨[]⟩) => exKd k fun v => ∃ w', (callFunc n vs.toArray).run P w = .ok (.value v) w' ∧ K (put env o.dst v) w'
        | _ => False
      | _, _ => False
    | _ => False
  | t => evVal P t o env fun v => K (put env o.dst v) w

def wantE (ops : Array Oper) (env : Env) (o : Oper) : Option Bool :=
  match o.guard with
  | none => some true
  | some (j, want) => match ops[j]? with
    | some oj => match oj.dst with
      | some d => match look env d with
        | some (.bool b) => some (b == want)
        | some _ => some false
        | none => none
      | none => some false
    | none => some false

theorem wantE_spec {ops : Array Oper} {env : Env} {N : Nat} {a : Act} (hA : Agr env N a df) {o : Oper} {b : Bool} (h : wantE ops env o = some b) : Region.wanted o (yielded ops a.tmps) = b := by
  unfold wantE at h
  unfold Region.wanted
  split at h
  · rename_i hg; simp only [hg]; simpa using h
  · rename_i j want hg
    simp only [hg]
    split at h
    · rename_i oj hj
      split at h
      · rename_i d hd
        split at h
        · rename_i b' hb
          have := hA.at_ d _ hb
          simp only [yielded, hj, hd, Option.bind_some, this]
          simp only [Option.some.injEq] at h
          rw [← h]; cases b' <;> cases want <;> rfl
        · rename_i v hv hb
          have := hA.at_ d _ hb
          simp only [Option.some.injEq] at h
          subst h
          simp only [yielded, hj, hd, Option.bind_some, this]
          split
          · rename_i b'' heq
            simp only [Option.some.injEq] at heq
            exact absurd heq (hv b'')
          · rfl
        · cases h
      · rename_i hd
        simp only [Option.some.injEq] at h
        subst h
        simp [yielded, hj, hd]
    · rename_i hj
      simp only [Option.some.injEq] at h
      subst h
      simp [yielded, hj]

section
variable {P : Program} {env : Env} {N : Nat} {a : Act} {w : World}

theorem mapA {xs : Array Operand} {vs : List Value} (hA : Agr env N a df) (h : lks env xs.toList = some vs) : xs.map a.eval = vs.toArray := by
  rw [← hA.evals h, ← Array.toList_map]

theorem mapP {xs : Array (Nat × Operand)} {vs : List (Nat × Value)} (hA : Agr env N a df) (h : lkp env xs.toList = some vs) : (xs.map fun (i, x) => (i, a.eval x)) = vs.toArray := by
  rw [← hA.evalp h, ← Array.toList_map]

theorem semV_run {o : Oper} {s : Sem Value} (hA : Agr env N a df) (h : semV env o = some s) : execOp a.eval o = (do pure (.value (← s))) := by
  unfold semV at h
  split at h
  all_goals first | (cases h; done) | (rename_i ho; try (split at h) <;> try (cases h; done))
  all_goals try (simp only [Option.some.injEq] at h; subst h)
  all_goals unfold execOp
  all_goals simp only [ho]
  all_goals first
    | (rename_i h1; rw [hA.eval h1]; done)
    | (rename_i h1; rw [mapP hA h1]; done)
    | (rename_i h1 h2; rw [hA.eval h1, hA.eval h2]; done)
    | (rename_i h1 h2; rw [hA.eval h1, hA.eval h2]; rfl)
    | (rename_i h1 h2; rw [mapA hA h1, mapA hA h2]; done)
    | (rename_i h1 h2; simp only [resolve, h1, mapA hA h2, invoke, builtin, pure_bind]; done)
    | rfl

theorem semU_run {o : Oper} {s : Sem Unit} (hA : Agr env N a df) (h : semU env o = some s) : execOp a.eval o = (do s; pure .skip) := by
  unfold semU at h
  split at h
  all_goals first | (cases h; done) | (rename_i ho; try (split at h) <;> try (cases h; done))
  all_goals try (simp only [Option.some.injEq] at h; subst h)
  all_goals unfold execOp
  all_goals simp only [ho]
  all_goals first
    | (rename_i h1 h2; rw [hA.eval h1, hA.eval h2]; done)
    | (rename_i h1 h2 h3; rw [hA.eval h1, hA.eval h2, hA.eval h3]; done)

theorem wp_value {o : Oper} {v : Value} {w' : World} {K : Act → World → Prop} {Q : Exit → Act → World → Prop} (hr : (execOp a.eval o).run P w = .ok (.value v) w') (h : K (a.put o.dst v) w') : o.wp P a w K Q := by
  unfold Oper.wp; rw [hr]; exact h

theorem slK_run {sz : Nat} {ad : Option Addr} {cap len : Nat} {lo : Option Operand} {lo' : Option Int} {hi mx : Option Operand} {h' : Int} {mx' : Option Int} {K : Value → Prop} (isS : Bool)
    (hlo : (lo = none ∧ lo' = none) ∨ ∃ x k n, lo = some x ∧ lo' = some n ∧ a.eval x = .int k n)
    (hhi : (hi = none ∧ mx = none ∧ h' = len) ∨ ∃ x k, hi = some x ∧ a.eval x = .int k h')
    (hmx : (mx = none ∧ mx' = none) ∨ ∃ x k n, mx = some x ∧ mx' = some n ∧ a.eval x = .int k n)
    (h : slK sz ad cap lo' h' mx' K) :
    ∃ l hh m : Nat, (∀ w : World, (Instr.sliceBounds isS len cap (lo.map a.eval) (hi.map a.eval) (mx.map a.eval)).run P w = .ok (l, hh, m) w) ∧
      K (.slice (if m = l then ad else ad.map (·.add (l * sz))) (hh - l) (m - l)) := by
  have sb : ∀ (x : Operand) (k : IntKind) (n : Int) (y : Nat) (c : BoundsCode), a.eval x = .int k n → 0 ≤ n → n ≤ (y : Int) → ∀ w : World, (Instr.sliceBound (a.eval x) y c).run P w = .ok n.toNat w := by
    intro x k n y c he h0 h1 w; simp [Instr.sliceBound, he, asIntOf, h0, h1]
  have zero : ∀ (m hh : Nat), K (.slice ad hh m) → K (.slice (if m = 0 then ad else ad.map (·.add (0 * sz))) (hh - 0) (m - 0)) := by
    intro m hh hk
    have : (if m = 0 then ad else ad.map (·.add (0 * sz))) = ad := by
      split
      · rfl
      · cases ad <;> simp [Addr.add]
    rw [this]; exact hk
  have sub : ∀ (l m hh : Nat), (∀ a', SubA sz ad l m a' → K (.slice a' (hh - l) (m - l))) → K (.slice (if m = l then ad else ad.map (·.add (l * sz))) (hh - l) (m - l)) := by
    intro l m hh hk
    refine hk _ ⟨fun e => by simp [e], fun e => by simp [e]⟩
  rcases hmx with ⟨rfl, rfl⟩ | ⟨xm, km, nm, rfl, rfl, hm⟩
  · rcases hhi with ⟨rfl, _, rfl⟩ | ⟨xh, kh, rfl, hh⟩
    · rcases hlo with ⟨rfl, rfl⟩ | ⟨xl, kl, nl, rfl, rfl, hl⟩
      · simp only [slK] at h
        exact ⟨0, len, cap, fun w => by simp [Instr.sliceBounds], zero _ _ (by simpa using h.2.2)⟩
      · simp only [slK] at h
        obtain ⟨h0, h1, h2, h3⟩ := h
        refine ⟨nl.toNat, len, cap, ?_, sub _ _ _ (by simpa using h3)⟩
        intro w; simp [Instr.sliceBounds, sb xl kl nl len _ hl h0 h1]
    · rcases hlo with ⟨rfl, rfl⟩ | ⟨xl, kl, nl, rfl, rfl, hl⟩
      · simp only [slK] at h
        obtain ⟨h0, h1, h3⟩ := h
        exact ⟨0, h'.toNat, cap, fun w => by cases isS <;> simp [Instr.sliceBounds, sb xh kh h' cap _ hh h0 h1], zero _ _ h3⟩
      · simp only [slK] at h
        obtain ⟨h0, h1, h2, h3⟩ := h
        refine ⟨nl.toNat, h'.toNat, cap, ?_, sub _ _ _ h3⟩
        intro w; cases isS <;> simp [Instr.sliceBounds, sb xl kl nl h'.toNat _ hl h0 (by omega), sb xh kh h' cap _ hh (by omega) h2]
  · rcases hhi with ⟨_, hc, _⟩ | ⟨xh, kh, rfl, hh⟩
    · cases hc
    · rcases hlo with ⟨rfl, rfl⟩ | ⟨xl, kl, nl, rfl, rfl, hl⟩
      · simp only [slK] at h
        obtain ⟨h0, h1, h2, h3⟩ := h
        refine ⟨0, h'.toNat, nm.toNat, ?_, zero _ _ h3⟩
        intro w; cases isS <;> simp [Instr.sliceBounds, sb xm km nm cap _ hm (by omega) h2, sb xh kh h' nm.toNat _ hh h0 (by omega)]
      · simp only [slK] at h
        obtain ⟨h0, h1, h2, h4, h3⟩ := h
        refine ⟨nl.toNat, h'.toNat, nm.toNat, ?_, sub _ _ _ h3⟩
        intro w; cases isS <;> simp [Instr.sliceBounds, sb xm km nm cap _ hm (by omega) h4, sb xh kh h' nm.toNat _ hh (by omega) (by omega), sb xl kl nl h'.toNat _ hl h0 (by omega)]

theorem bd_no {x : Option Operand} (h : bd env x = .no) : x = none := by
  unfold bd at h; split at h
  · rfl
  · split at h <;> cases h

theorem bd_int {x : Option Operand} {n : Int} (hA : Agr env N a df) (h : bd env x = .int n) : ∃ y k, x = some y ∧ a.eval y = .int k n := by
  unfold bd at h; split at h
  · cases h
  · rename_i y
    split at h
    · rename_i k m hm
      simp only [Bd.int.injEq] at h
      subst h
      exact ⟨y, k, rfl, hA.eval hm⟩
    · cases h

theorem bdlo {x : Option Operand} (hA : Agr env N a df) (hb : bd env x ≠ .bad) : (x = none ∧ (match bd env x with | .int n => some n | _ => none : Option Int) = none) ∨ ∃ y k n, x = some y ∧ (match bd env x with | .int n => some n | _ => none : Option Int) = some n ∧ a.eval y = .int k n := by
  cases h : bd env x with
  | no => exact .inl ⟨bd_no h, rfl⟩
  | int n => obtain ⟨y, k, h1, h2⟩ := bd_int hA h; exact .inr ⟨y, k, n, h1, rfl, h2⟩
  | bad => exact absurd h hb

theorem slE_run {t : TypeId} {x : Operand} {lo hi mx : Option Operand} {K : Value → Prop} (hA : Agr env N a df) (h : slE P env t x lo hi mx K) :
    ∃ v, (∀ w : World, (Instr.sliceAt t (a.eval x) (lo.map a.eval) (hi.map a.eval) (mx.map a.eval)).run P w = .ok v w) ∧ K v := by
  unfold slE at h
  split at h
  · exact h.elim
  · exact h.elim
  · exact h.elim
  · rename_i nl nh nm
    have L := bdlo (x := lo) hA (fun e => by simp_all)
    have M := bdlo (x := mx) hA (fun e => by simp_all)
    simp only at h
    generalize hlo : (match bd env lo with | .int n => some n | _ => none : Option Int) = lo' at h L
    generalize hmx : (match bd env mx with | .int n => some n | _ => none : Option Int) = mx' at h M
    split at h
    · rename_i e ad n c hu hx
      have hx' := hA.eval hx
      split at h
      · rename_i inf hh hi' hb
        obtain ⟨y, k, hy, he⟩ := bd_int hA hb
        obtain ⟨l, h2, m, hr, hk⟩ := slK_run (P := P) (len := n) (a := a) true L (.inr ⟨y, k, hy, he⟩) M h
        refine ⟨_, ?_, hk⟩
        intro w; simp [Instr.sliceAt, Instr.slice, run_underlying hu, hx', hr, sizeOf, typeInfo, hi']
      · rename_i inf hi' hb hb'
        have hn := bd_no hb
        have hn' := bd_no hb'
        rw [hn'] at hmx
        subst hmx
        obtain ⟨l, h2, m, hr, hk⟩ := slK_run (P := P) (len := n) (a := a) (hi := hi) (mx := mx) true L (.inl ⟨hn, hn', rfl⟩) (.inl ⟨hn', rfl⟩) h
        refine ⟨_, ?_, hk⟩
        intro w; simp [Instr.sliceAt, Instr.slice, run_underlying hu, hx', hr, sizeOf, typeInfo, hi']
      · exact h.elim
    · rename_i n e ad hu hx
      have hx' := hA.eval hx
      split at h
      · rename_i inf hh hi' hb
        obtain ⟨y, k, hy, he⟩ := bd_int hA hb
        obtain ⟨l, h2, m, hr, hk⟩ := slK_run (P := P) (len := n) (a := a) false L (.inr ⟨y, k, hy, he⟩) M h
        refine ⟨_, ?_, hk⟩
        intro w; simp [Instr.sliceAt, run_underlying hu, hx', hr, sizeOf, typeInfo, hi', Instr.sureAddr]
        split <;> rfl
      · rename_i inf hi' hb hb'
        have hn := bd_no hb
        have hn' := bd_no hb'
        rw [hn'] at hmx
        subst hmx
        obtain ⟨l, h2, m, hr, hk⟩ := slK_run (P := P) (len := n) (a := a) (hi := hi) (mx := mx) false L (.inl ⟨hn, hn', rfl⟩) (.inl ⟨hn', rfl⟩) h
        refine ⟨_, ?_, hk⟩
        intro w; simp [Instr.sliceAt, run_underlying hu, hx', hr, sizeOf, typeInfo, hi', Instr.sureAddr]
        split <;> rfl
      · exact h.elim
    · rename_i str hu hx
      have hx' := hA.eval hx
      have sb : ∀ (x : Operand) (k : IntKind) (n : Int) (y : Nat) (c : BoundsCode), a.eval x = .int k n → 0 ≤ n → n ≤ (y : Int) → ∀ w : World, (Instr.sliceBound (a.eval x) y c).run P w = .ok n.toNat w := by
        intro x k n y c he h0 h1 w; simp [Instr.sliceBound, he, asIntOf, h0, h1]
      split at h
      · rename_i hh hb hb'
        obtain ⟨y, k, hy, he⟩ := bd_int hA hb
        have hn' := bd_no hb'
        subst hy; subst hn'
        rcases L with ⟨rfl, hl⟩ | ⟨z, k2, n2, rfl, hl, he2⟩
        · rw [hl] at h
          obtain ⟨h0, h1, h2⟩ := h
          refine ⟨_, ?_, h2⟩
          intro w; simp [Instr.sliceAt, Instr.slice, run_underlying hu, hx', Instr.sliceBounds, sb y k hh _ _ he h0 h1]
        · rw [hl] at h
          obtain ⟨h0, h1, h2, h3⟩ := h
          refine ⟨_, ?_, h3⟩
          intro w; simp [Instr.sliceAt, Instr.slice, run_underlying hu, hx', Instr.sliceBounds, sb y k hh _ _ he (by omega) h2, sb z k2 n2 hh.toNat _ he2 h0 (by omega)]
      · rename_i hb hb'
        have hn := bd_no hb
        have hn' := bd_no hb'
        subst hn; subst hn'
        rcases L with ⟨rfl, hl⟩ | ⟨z, k2, n2, rfl, hl, he2⟩
        · rw [hl] at h
          refine ⟨_, ?_, h⟩
          intro w; simp [Instr.sliceAt, Instr.slice, run_underlying hu, hx', Instr.sliceBounds]
        · rw [hl] at h
          obtain ⟨h0, h1, h3⟩ := h
          refine ⟨_, ?_, h3⟩
          intro w; simp [Instr.sliceAt, Instr.slice, run_underlying hu, hx', Instr.sliceBounds, sb z k2 n2 str.size _ he2 h0 h1]
      · exact h.elim
    · exact h.elim

theorem scV_run {o : Oper} {c : Prop} {v : Value} (hA : Agr env N a df) (h : scV env o = some (c, v)) (hc : c) : (execOp a.eval o).run P w = .ok (.value v) w := by
  unfold scV at h
  split at h
  · rename_i op t x y yt ho
    split at h
    · rename_i k p k' q h1 h2
      refine opVal (s := do eqGuard op t x y (a.eval x) (a.eval y); binOp op t (a.eval x) (a.eval y)) (by unfold execOp; simp [ho]) ?_
      rw [hA.eval h1, hA.eval h2]
      have hg : (eqGuard op t x y (.int k p) (.int k' q)).run P w = .ok () w := by unfold eqGuard; cases op <;> rfl
      simp only [Sem.run_bind, hg, Result.andThen_ok]
      split at h
      · simp only [Option.some.injEq, Prod.mk.injEq] at h; obtain ⟨rfl, rfl⟩ := h
        have : ¬ q < 0 := by omega
        simp [binOp, Op.shift, this, shlI]
      · simp only [Option.some.injEq, Prod.mk.injEq] at h; obtain ⟨rfl, rfl⟩ := h
        have : ¬ q < 0 := by omega
        simp [binOp, Op.shift, this, shrI]
      · split at h
        · rename_i hk; subst hk
          simp only [Option.some.injEq, Prod.mk.injEq] at h; obtain ⟨rfl, rfl⟩ := h
          simp [binOp, Op.intDiv, hc]
        · cases h
      · split at h
        · rename_i hk; subst hk
          simp only [Option.some.injEq, Prod.mk.injEq] at h; obtain ⟨rfl, rfl⟩ := h
          simp [binOp, Op.intDiv, hc]
        · cases h
      · cases h
    · cases h
  · cases h

theorem evVal_run {tag : Tag} {o : Oper} {K : Value → Prop} (hA : Agr env N a df) (h : evVal P tag o env K) : ∃ v, (∀ w, (execOp a.eval o).run P w = .ok (.value v) w) ∧ K v := by
  unfold evVal at h
  split at h
  · split at h
    · rename_i v hv; exact ⟨v, fun w => pv_run hA hv, h⟩
    · exact h.elim
  · split at h
    · rename_i t x i ho
      split at h
      · rename_i e ad n c k j h1 h2 h3
        split at h
        · rename_i inf hi
          obtain ⟨b, f, rfl, h0, hl, hk⟩ := h
          refine ⟨_, fun w => opVal (s := Instr.indexAt t (a.eval x) (a.eval i)) (by unfold execOp; simp [ho]) ?_, hk⟩
          rw [hA.eval h2, hA.eval h3]
          simp [Instr.indexAt, asIntOf, run_underlying h1, h0, hl, sizeOf, typeInfo, hi, Addr.add_lit]
        · exact h.elim
      · rename_i len e b f k j h1 h2 h3
        split at h
        · rename_i inf hi
          obtain ⟨h0, hl, hk⟩ := h
          refine ⟨_, fun w => opVal (s := Instr.indexAt t (a.eval x) (a.eval i)) (by unfold execOp; simp [ho]) ?_, hk⟩
          rw [hA.eval h2, hA.eval h3]
          simp [Instr.indexAt, asIntOf, run_underlying h1, Instr.sureAddr, h0, hl, sizeOf, typeInfo, hi, Addr.add_lit]
        · exact h.elim
      · exact h.elim
    · exact h.elim
  · split at h
    · rename_i t x lo hi mx ho
      obtain ⟨v, hr, hk⟩ := slE_run hA h
      exact ⟨v, fun w => opVal (s := Instr.sliceAt t (a.eval x) (lo.map a.eval) (hi.map a.eval) (mx.map a.eval)) (by unfold execOp; simp [ho]) (hr w), hk⟩
    · exact h.elim
  · split at h
    · rename_i c v hv
      exact ⟨v, fun w => scV_run hA hv h.1, h.2⟩
    · exact h.elim
  · split at h
    · rename_i x ho
      split at h
      · rename_i v h1
        obtain ⟨b, f, rfl, hk⟩ := h
        exact ⟨_, fun w => (by unfold execOp; simp [ho, hA.eval h1]), hk⟩
      · exact h.elim
    · exact h.elim
  · exact h.elim

theorem goesIn_run {n : Nat} (hg : goesIn P n = true) (args : Array Value) (w : World) : (callFunc n args).run P w = .ok (.enter n args) w := by
  unfold goesIn at hg
  split at hg
  · rename_i fn hfn
    simp only [Bool.and_eq_true, Bool.not_eq_true'] at hg
    simp only [beq_eq_false_iff_ne, ne_eq] at hg
    have hb : ¬ fn.body = none := fun e => by simp [e] at hg
    simp [callFunc, hfn, hg.2, hb]
  · cases hg

theorem evTag_wp {tag : Tag} {o : Oper} {K : Env → World → Prop} {K' : Act → World → Prop} {Q : Exit → Act → World → Prop} (hA : Agr env N a df) (hd : dOk N o.dst = true)
    (h : evTag P tag o env w K) (hK : ∀ env' v w', Agr env' N (a.put o.dst v) df → K env' w' → K' (a.put o.dst v) w') : o.wp P a w K' Q := by
  unfold evTag at h
  split at h
  · -- ld
    split at h
    · rename_i s hs
      obtain ⟨v, hr, hk⟩ := exKd_imp h
      exact wp_value (opVal (semV_run hA hs) hr) (hK _ _ _ (hA.put hd v) hk)
    · exact h.elim
  · -- r
    split at h
    · rename_i s hs
      obtain ⟨v, w', hr, hk⟩ := exKd_imp h
      exact wp_value (opVal (semV_run hA hs) hr) (hK _ _ _ (hA.put hd v) hk)
    · exact h.elim
  · -- bx
    split at h
    · rename_i s hs
      obtain ⟨g, w', hr, hk⟩ := h
      exact wp_value (opVal (semV_run hA hs) hr) (hK _ _ _ (hA.put hd _) hk)
    · exact h.elim
  · -- u
    split at h
    · rename_i s hs
      obtain ⟨w', hr, hk⟩ := h
      unfold Oper.wp
      rw [semU_run hA hs]
      simp only [Sem.run_bind, hr, Result.andThen_ok]
      exact hK _ _ _ (hA.put hd _) hk
    · exact h.elim
  · -- cl
    split at h
    · rename_i c ho
      split at h
      · rename_i f vs hc hvs
        split at h
        · rename_i n cb hf
          cases hg : goesIn P n with
          | false => rw [hg] at h; exact h.elim
          | true =>
            rw [hg] at h
            simp only [cond_true] at h
            have hrun : (execOp a.eval o).run P w = .ok (.enter n (vs ++ cb).toArray) w := by
              unfold execOp
              simp only [ho, resolve, hc, mapA hA hvs, hA.eval hf, Deferred.ofValue, pure_bind, invoke]
              simpa using goesIn_run hg (vs ++ cb).toArray w
            unfold Oper.wp
            rw [hrun]
            refine Calls.mono h fun e w' he => ?_
            obtain ⟨rs, rfl, hk⟩ := exKs_imp he
            exact hK _ _ _ (hA.put hd _) hk
        · exact h.elim
      · exact h.elim
    · exact h.elim
  · -- rt
    split at h
    · rename_i s hs
      obtain ⟨rs, w', hr, hk⟩ := exKs_imp h
      exact wp_value (opVal (semV_run hA hs) hr) (hK _ _ _ (hA.put hd _) hk)
    · exact h.elim
  · -- nx
    split at h
    · rename_i s hs
      obtain ⟨b, rest, w', hr, hk⟩ := h
      exact wp_value (opVal (semV_run hA hs) hr) (hK _ _ _ (hA.put hd _) hk)
    · exact h.elim
  · -- cv
    split at h
    · rename_i c ho
      split at h
      · rename_i f vs hc hvs
        split at h
        · rename_i fv hf
          obtain ⟨n, cb, rfl, hg, h⟩ := h
          have hrun : (execOp a.eval o).run P w = .ok (.enter n (vs ++ cb).toArray) w := by
            unfold execOp
            simp only [ho, resolve, hc, mapA hA hvs, hA.eval hf, Deferred.ofValue, pure_bind, invoke]
            simpa using goesIn_run hg (vs ++ cb).toArray w
          unfold Oper.wp
          rw [hrun]
          refine Calls.mono h fun e w' he => ?_
          obtain ⟨rs, rfl, hk⟩ := exKs_imp he
          exact hK _ _ _ (hA.put hd _) hk
        · exact h.elim
      · exact h.elim
    · exact h.elim
  · -- cx
    split at h
    · rename_i c ho
      split at h
      · rename_i f vs hc hvs
        split at h
        · rename_i n hf
          obtain ⟨v, w', hr, hk⟩ := exKd_imp h
          have hrun : (execOp a.eval o).run P w = .ok (.value v) w' := by
            unfold execOp
            simp only [ho, resolve, hc, mapA hA hvs, hA.eval hf, Deferred.ofValue, pure_bind, invoke]
            simpa using hr
          exact wp_value hrun (hK _ _ _ (hA.put hd _) hk)
        · exact h.elim
      · exact h.elim
    · exact h.elim
  · obtain ⟨v, hr, hk⟩ := evVal_run hA h
    exact wp_value (hr w) (hK _ _ _ (hA.put hd v) hk)

end
end Go.Proofs.Ytdcgapabphjgbaa.Sx
