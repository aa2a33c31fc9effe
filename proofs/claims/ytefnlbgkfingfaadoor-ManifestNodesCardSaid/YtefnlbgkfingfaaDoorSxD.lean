/- Functions that hold ranges over functions: verification conditions in which the marks of frames are counted (conditions: none; any program under mixed orders). -/
import Derived.Test.YtefnlbgkfingfaaDoorSxIn
namespace Go.Proofs.YtefnlbgkfingfaaDoor.Sx
open Go
set_option maxRecDepth 8000

/-- The marks of a frame. -/
def mks (ds : List Nat) : List Deferred := ds.map fun D => { target := .collected D, args := #[] }

/-- A code in which ranges over functions may stand. -/
def codeInD (D : List Nat) (N : Nat) : Code → Bool
  | .region _ ops _ => ops.toList.all fun o => dIn D o.dst && dOk N o.dst
  | .seq a b => codeInD D N a && codeInD D N b
  | .cond _ a b => codeInD D N a && codeInD D N b
  | .block _ a => codeInD D N a
  | .loop a => codeInD D N a
  | .rangeFunc _ _ _ _ => true
  | .skip | .exit _ | .ret | .label _ => true
  | _ => false

/-- A part of a code. -/
def subC : List Nat → Code → Code
  | 0 :: p, .seq a _ => subC p a
  | _ :: p, .seq _ b => subC p b
  | 0 :: p, .cond _ a _ => subC p a
  | _ :: p, .cond _ _ b => subC p b
  | _ :: p, .block _ a => subC p a
  | _ :: p, .loop a => subC p a
  | 0 :: p, .rangeFunc _ _ a _ => subC p a
  | _ :: p, .rangeFunc _ _ _ b => subC p b
  | _, c => c

def sel (env : Env) : List Nat → Env
  | [] => []
  | s :: r => (s, look env s) :: sel env r

/-- A range over a function comes to its end with one mark more, in a world of J. -/
def HoleOk (P : Program) (N : Nat) (x : Code) (L : Env) (ds : List Nat) (w : World) (J : Nat → World → Prop) : Prop :=
  ∀ (a : Act) (Q : Exit → Act → World → Prop), Agr L N a (mks ds) → (∀ D w', J D w' → Q .normal { a with defers := { target := .collected D, args := #[] } :: a.defers } w') → x.wpIn Fence.wide 5 P Q a w

/-- A call of yield. -/
def evY (P : Program) (o : Oper) (env : Env) (w : World) (K : Env → World → Prop) : Prop :=
  match o.op with
  | .call c => match c.callee, lks env c.args.toList with
    | .value f, some vs => match lk env f with
      | some (.func (.yield l) ⟨[]⟩ ⟨[]⟩) => bif o.guard.isNone then YieldAt Fence.wide 4 P l vs.toArray w fun e w' => ∃ b : Bool, e = .returned (.bool b) ∧ K (put env o.dst (.bool b)) w' else False
      | _ => False
    | _, _ => False
  | _ => False

inductive TD where
  | c (tc : TC)
  | regY (k : Nat) (ts us : TL)
  | seq (a b : TD)
  | cond (a b : TD)
  | blk (a : TD)
  | loop (asg live : List Nat) (ks : List Kd) (a : TD)
  | hole (L : List Nat)

def evD (P : Program) (N : Nat) : TD → Code → Env → List Nat → World → (Exit → Env → List Nat → World → Prop) → Prop
  | .c tc, x, env, ds, w, Q => bif codeIn (List.range N) N x then evC P N tc x env w fun e env' w' => Q e env' ds w' else False
  | .seq a b, .seq x y, env, ds, w, Q => evD P N a x env ds w fun e env' ds' w' => match e with
    | .normal => evD P N b y env' ds' w' Q
    | e => Q e env' ds' w'
  | .cond a b, .cond c x y, env, ds, w, Q => match lk env c with
    | some (.bool t) => (t = true → evD P N a x env ds w Q) ∧ (t = false → evD P N b y env ds w Q)
    | _ => False
  | .blk a, .block id x, env, ds, w, Q => evD P N a x env ds w fun e env' ds' w' => match e with
    | .exit id' => bif Nat.beq id' id then Q .normal env' ds' w' else Q (.exit id') env' ds' w'
    | e => Q e env' ds' w'
  | .loop asg live ks a, .loop x, env, ds, w, Q => bif codeInD asg N x && Nat.beq live.length ks.length then
      ∃ (I : List Nat → Cur ks Prop) (μ : Cur ks Nat), appC False ks (I ds) (looks env live) w ∧ alC ks fun vs => ∀ (ds : List Nat) (w : World), appC False ks (I ds) (vs.map some) w →
        evD P N a x (sets live vs (forget asg env)) ds w fun e env' ds' w' => match e with
          | .normal => appC False ks (I ds') (looks env' live) w' ∧ appC 0 ks μ (looks env' live) w' < appC 0 ks μ (vs.map some) w
          | e => Q e env' ds' w'
      else False
  | .hole L, x, env, ds, w, Q => ∃ J : Nat → World → Prop, HoleOk P N x (sel env L) ds w J ∧ ∀ (D : Nat) (w' : World), J D w' → Q .normal env (D :: ds) w'
  | .regY k ts us, .region _ ops false, env, ds, w, Q => match ops.toList.drop k with
    | y :: post => evOps P ops ts (ops.toList.take k) env w fun env' w' => evY P y env' w' fun env' w' => evOps P ops us post env' w' fun env' w' => Q .normal env' ds w'
    | [] => False
  | _, _, _, _, _, _ => False

section
variable {P : Program} {N : Nat}

theorem codeIn_of_D {D E : List Nat} : ∀ {c : Code}, codeInD D N c = true → codeIn E N c = true → codeIn D N c = true := by
  intro c
  induction c with
  | region id ops d => intro h1 _; exact h1
  | seq a b iha ihb =>
    intro h1 h2
    simp only [codeIn, codeInD, Bool.and_eq_true] at *
    exact ⟨iha h1.1 h2.1, ihb h1.2 h2.2⟩
  | cond o a b iha ihb =>
    intro h1 h2
    simp only [codeIn, codeInD, Bool.and_eq_true] at *
    exact ⟨iha h1.1 h2.1, ihb h1.2 h2.2⟩
  | block id a iha => intro h1 h2; exact iha h1 h2
  | loop a iha => intro h1 h2; exact iha h1 h2
  | skip => intro _ _; rfl
  | exit id => intro _ _; rfl
  | ret => intro _ _; rfl
  | label l => intro _ _; rfl
  | _ => intro _ h2; cases h2

theorem codeInD_inter {D E : List Nat} : ∀ {c : Code}, codeInD D N c = true → codeInD E N c = true → codeInD (D.filter (isIn E)) N c = true := by
  intro c
  induction c with
  | region id ops d => intro h1 h2; exact codeIn_inter (c := .region id ops d) h1 h2
  | seq a b iha ihb =>
    intro h1 h2
    simp only [codeInD, Bool.and_eq_true] at *
    exact ⟨iha h1.1 h2.1, ihb h1.2 h2.2⟩
  | cond o a b iha ihb =>
    intro h1 h2
    simp only [codeInD, Bool.and_eq_true] at *
    exact ⟨iha h1.1 h2.1, ihb h1.2 h2.2⟩
  | block id a iha => intro h1 h2; exact iha h1 h2
  | loop a iha => intro h1 h2; exact iha h1 h2
  | skip => intro _ _; rfl
  | exit id => intro _ _; rfl
  | ret => intro _ _; rfl
  | label l => intro _ _; rfl
  | rangeFunc g ps a b iha ihb => intro _ _; rfl
  | _ => intro h1 _; cases h1

theorem wpListIn_cut {F : Fence} {n : Nat} {ops : Array Oper} {Q : Exit → Act → World → Prop} {rest : List Oper} (hF : FOk F) : ∀ {l : List Oper} {a : Act} {w : World}, (∀ o ∈ l, noDefO o = true) →
    wpList P ops (fun e a' w' => e = .normal ∧ wpListIn F n P ops Q rest a' w') l a w → wpListIn F n P ops Q (l ++ rest) a w
  | [], a, w, _, h => h.2
  | o :: l, a, w, hd, h => by
    have ih := fun {a w} => wpListIn_cut (ops := ops) (rest := rest) (Q := Q) (n := n) hF (l := l) (a := a) (w := w) (fun o ho => hd o (by simp [ho]))
    have hL : ¬ LetsOut (fun e a' w' => e = .normal ∧ wpListIn F n P ops Q rest a' w') := by rintro ⟨_, _, h, _⟩; cases h
    simp only [wpList] at h
    simp only [List.cons_append, wpListIn]
    split
    · rename_i hw
      rw [if_pos hw] at h
      rcases h with h | ⟨_, h⟩
      · have h1 := Oper.wpIn_mono (fun a w h => ih h) (wp_wpIn (n := n) hF (hd o (by simp)) h)
        exact wpIn_post h1 (fun c a w h => by cases h.1) hL
      · exact absurd h hL
    · rename_i hw
      rw [if_neg hw] at h
      exact ⟨fun f _ => hF.fn f, ih h⟩

theorem yieldAt_any {m m' : Nat} {l : Nat} {args : Array Value} {W : World} {R : Ending → World → Prop} (h : YieldAt Fence.wide m P l args W R) : YieldAt Fence.wide m' P l args W R := by
  obtain ⟨fn, tmps, assign, body, h1, h2, h3⟩ := h
  exact ⟨fn, tmps, assign, body, h1, h2, fun c cs _ => h3 c cs (room_wide _)⟩

theorem evY_step {df : List Deferred} {ops : Array Oper} {env : Env} {a : Act} {w : World} {y : Oper} {post : List Oper} {K : Env → World → Prop} {Q : Exit → Act → World → Prop} (hA : Agr env N a df) (hn : noDefO y = true) (hd : dOk N y.dst = true) (h : evY P y env w K)
    (hK : ∀ env' b w', Agr env' N (a.put y.dst (.bool b)) df → K env' w' → wpListIn Fence.wide 5 P ops Q post (a.put y.dst (.bool b)) w') : wpListIn Fence.wide 5 P ops Q (y :: post) a w := by
  unfold evY at h
  split at h
  case h_2 => exact h.elim
  rename_i c ho
  split at h
  case h_2 => exact h.elim
  rename_i f vs hc hvs
  split at h
  case h_2 => exact h.elim
  rename_i l hf
  cases hg : y.guard.isNone with
  | false => rw [hg] at h; exact h.elim
  | true =>
    rw [hg] at h
    simp only [cond_true] at h
    obtain ⟨fn, tmps, assign, body, hy, hr⟩ := h
    have hgn : y.guard = none := by simpa using hg
    refine wpListIn_plain hgn fun K' hK' => ⟨fun f _ => trivial, ?_⟩
    have hs : (y.semAt Fence.wide.round a.eval).run P w = .ok (.round l fn tmps assign body) w := by
      rw [show Fence.wide.round = none from rfl, Oper.semAt_none]
      unfold execOp
      simp only [ho, resolve, hc, mapA hA hvs, hA.eval hf, Deferred.ofValue, pure_bind, invoke]
      have he : (⟨[]⟩ : Array Value) ++ vs.toArray = vs.toArray := by simp
      first | exact hy | (rw [he]; exact hy)
    rw [hs]
    simp only [Oper.uponIn]
    refine ⟨by simp [Fence.wide], hr.mono ?_⟩
    rintro e w' ⟨b, rfl, hk⟩
    exact hK' _ _ (hK _ b w' (hA.put hd _) hk)

theorem evD_wpIn (hm : P.follows .mixedOrders = true) {D : List Nat} : ∀ (td : TD) (c : Code) (env : Env) (ds : List Nat) (a : Act) (w : World) (Q : Exit → Env → List Nat → World → Prop) (Q' : Exit → Act → World → Prop), codeInD D N c = true → noDef c = true → ¬ LetsOut Q' → Agr env N a (mks ds) →
    evD P N td c env ds w Q → (∀ e env' ds' a' w', Agr env' N a' (mks ds') → Same D a a' → Q e env' ds' w' → Q' e a' w') → c.wpIn Fence.wide 5 P Q' a w := by
  intro td
  induction td generalizing D with
  | c tc =>
    intro c env ds a w Q Q' hc hn hL hA h hK
    simp only [evD] at h
    cases hb : codeIn (List.range N) N c with
    | false => rw [hb] at h; exact h.elim
    | true =>
      rw [hb] at h
      exact evC_wpIn (.inl rfl) hm (D := D) tc c env a w _ Q' (codeIn_of_D hc hb) hn hL hA h fun e env' a' w' hA' hS hq => hK e env' ds a' w' hA' hS hq
  | seq x y ihx ihy =>
    intro c env ds a w Q Q' hc hn hL hA h hK
    cases c <;> try (exact h.elim)
    rename_i cx cy
    simp only [codeInD, Bool.and_eq_true] at hc
    simp only [noDef, Bool.and_eq_true] at hn
    refine wpIn_seq (ihx cx env ds a w _ _ hc.1 hn.1 (fun hl => hL hl) hA h fun e env' ds' a' w' hA' hS hq => ?_)
    cases e with
    | normal => exact ihy cy env' ds' a' w' Q Q' hc.2 hn.2 hL hA' hq fun e2 env2 ds2 a2 w2 hA2 hS2 hq2 => hK e2 env2 ds2 a2 w2 hA2 (hS.trans hS2) hq2
    | _ => exact hK _ _ _ _ _ hA' hS hq
  | cond x y ihx ihy =>
    intro c env ds a w Q Q' hc hn hL hA h hK
    cases c <;> try (exact h.elim)
    rename_i o cx cy
    simp only [codeInD, Bool.and_eq_true] at hc
    simp only [noDef, Bool.and_eq_true] at hn
    simp only [evD] at h
    split at h
    · rename_i t ht
      exact wpIn_cond_split (hA.eval ht) (fun e => ihx cx env ds a w Q Q' hc.1 hn.1 hL hA (h.1 e) hK) (fun e => ihy cy env ds a w Q Q' hc.2 hn.2 hL hA (h.2 e) hK)
    · exact h.elim
  | blk x ihx =>
    intro c env ds a w Q Q' hc hn hL hA h hK
    cases c <;> try (exact h.elim)
    rename_i id cx
    simp only [codeInD] at hc
    refine wpIn_block (ihx cx env ds a w _ _ hc hn (fun hl => hL hl) hA h fun e env' ds' a' w' hA' hS hq => ?_)
    cases e with
    | exit id' =>
      simp only [Exit.inBlock]
      simp only at hq
      cases hb : Nat.beq id' id with
      | true => rw [if_pos (Nat.eq_of_beq_eq_true hb)]; rw [hb] at hq; exact hK _ _ _ _ _ hA' hS hq
      | false =>
        have hne : id' ≠ id := fun e => by subst e; simp at hb
        rw [if_neg hne]; rw [hb] at hq; exact hK _ _ _ _ _ hA' hS hq
    | _ => exact hK _ _ _ _ _ hA' hS hq
  | loop asg live ks x ihx =>
    intro c env ds a w Q Q' hc hn hL hA h hK
    cases c <;> try (exact h.elim)
    rename_i cx
    simp only [evD] at h
    cases hb : (codeInD asg N cx && Nat.beq live.length ks.length) with
    | false => rw [hb] at h; exact h.elim
    | true =>
      rw [hb] at h
      simp only [cond_true] at h
      obtain ⟨I, μ, h0, hr⟩ := h
      simp only [Bool.and_eq_true] at hb
      have hlen : live.length = ks.length := Nat.eq_of_beq_eq_true hb.2
      simp only [codeInD] at hc
      obtain ⟨vs0, hvs0⟩ := alC_any (by rw [looks_length]; exact hlen) h0
      refine wpIn_loop (fun a' w' => ∃ (ds : List Nat) (vs : List Value), slots a' live = vs.map some ∧ Agr (sets live vs (forget asg env)) N a' (mks ds) ∧ Agr (forget asg env) N a' (mks ds) ∧ Same D a a' ∧ appC False ks (I ds) (vs.map some) w') (fun a' w' => appC 0 ks μ (slots a' live) w')
        ⟨ds, vs0, slots_eq hA live vs0 hvs0, (hA.forget asg).sets live vs0 (by have := congrArg List.length hvs0; rw [looks_length] at this; simpa using this) (looks_at hA live vs0 hvs0), hA.forget asg, Same.refl _ _, by rw [← hvs0]; exact h0⟩ ?_
      rintro a1 w1 ⟨ds1, vs, hsl, hA1, hF1, hS1, hI⟩
      have hsll : ∀ l, (slots a1 l).length = l.length := by intro l; induction l <;> simp_all [slots]
      have hvl : (vs.map some).length = ks.length := by rw [← hsl, hsll]; exact hlen
      obtain ⟨vs', he, hbody⟩ := alC_app hvl hI hr
      have hvv : vs = vs' := by
        have := congrArg (List.filterMap id) he
        simpa using this
      subst hvv
      refine ihx (D := asg.filter (isIn D)) cx _ ds1 a1 w1 _ _ (codeInD_inter hb.1 hc) hn (fun hl => hL hl) hA1 (hbody ds1 w1 hI) fun e env' ds' a' w' hA' hS' hq => ?_
      have hSa : Same asg a1 a' := fun s hs => hS' s fun hm => hs (List.mem_filter.1 hm).1
      have hSD : Same D a1 a' := fun s hs => hS' s fun hm => hs (isIn_spec (List.mem_filter.1 hm).2)
      cases e with
      | normal =>
        obtain ⟨hI', hlt⟩ := hq
        obtain ⟨vs', hvs'⟩ := alC_any (by rw [looks_length]; exact hlen) hI'
        have hF' : Agr (forget asg env) N a' (mks ds') := ⟨hA'.defers, hA'.size, fun s v hs => by rw [hSa s (look_forget hs).2]; exact hF1.at_ s v hs⟩
        refine ⟨⟨ds', vs', slots_eq hA' live vs' hvs', hF'.sets live vs' (by have := congrArg List.length hvs'; rw [looks_length] at this; simpa using this) (looks_at hA' live vs' hvs'), hF', hS1.trans hSD, by rw [← hvs']; exact hI'⟩, ?_⟩
        rw [slots_eq hA' live vs' hvs', hsl, ← hvs']
        exact hlt
      | _ => exact hK _ _ _ _ _ hA' (hS1.trans hSD) hq
  | hole L =>
    intro c env ds a w Q Q' hc hn hL hA h hK
    obtain ⟨J, h1, h2⟩ := h
    have hS : Agr (sel env L) N a (mks ds) := by
      refine ⟨hA.defers, hA.size, fun s v hs => hA.at_ s v ?_⟩
      clear h1
      induction L with
      | nil => simp [sel, look] at hs
      | cons t L ih =>
        simp only [sel, look] at hs
        cases hb : Nat.beq t s with
        | true => rw [hb] at hs; rw [← Nat.eq_of_beq_eq_true hb]; exact hs
        | false => rw [hb] at hs; exact ih hs
    exact h1 a Q' hS fun D w' hJ => hK .normal env (D :: ds) _ w' ⟨by simp [hA.defers, mks], hA.size, hA.at_⟩ (fun _ _ => rfl) (h2 D w' hJ)
  | regY k ts us =>
    intro c env ds a w Q Q' hc hn hL hA h hK
    cases c <;> try (exact h.elim)
    rename_i id ops d
    cases d with
    | true => exact h.elim
    | false =>
      obtain ⟨h1, h2⟩ := codeIn_region (id := id) (d := false) hc
      have hn' : ∀ o ∈ ops.toList, noDefO o = true := List.all_eq_true.1 hn
      simp only [evD] at h
      split at h
      · rename_i y post hdrop
        have hops : ops.toList = ops.toList.take k ++ y :: post := by rw [← hdrop, List.take_append_drop]
        have m1 : ∀ o ∈ ops.toList.take k, o ∈ ops.toList := fun o ho => List.mem_of_mem_take ho
        have m2 : ∀ o ∈ y :: post, o ∈ ops.toList := fun o ho => by rw [hops]; exact List.mem_append_right _ ho
        refine wpIn_region_list ?_
        rw [hops]
        refine wpListIn_cut (.inl rfl) (fun o ho => hn' o (m1 o ho)) (evOps_wl (D := D) (Q := fun e a' w' => e = .normal ∧ wpListIn Fence.wide 5 P ops Q' (y :: post) a' w') ts _ env a w _ hA (fun o ho => h1 o (m1 o ho)) (fun o ho => h2 o (m1 o ho)) h fun env1 a1 w1 hA1 hS1 hq1 => ⟨rfl, ?_⟩)
        have hy := m2 y (by simp)
        refine evY_step hA1 (hn' y hy) (h1 y hy) hq1 fun env2 b w2 hA2 hq2 => ?_
        refine wpListIn_of (.inl rfl) hL _ _ _ (fun o ho => hn' o (m2 o (by simp [ho]))) (evOps_wl (D := D) us post env2 _ w2 _ hA2 (fun o ho => h1 o (m2 o (by simp [ho]))) (fun o ho => h2 o (m2 o (by simp [ho]))) hq2 fun env3 a3 w3 hA3 hS3 hq3 => ?_)
        exact hK _ _ _ _ _ hA3 ((hS1.trans (Same.put (h2 y hy) (.bool b))).trans hS3) hq3
      · exact h.elim

/-- The marks are taken down, the newest first. -/
def downs (P : Program) : List Nat → World → (World → Prop) → Prop
  | [], w, K => K w
  | D :: ds, w, K => ∃ w', (Instr.takeDeferred D).run P w = .ok [] w' ∧ downs P ds w' K

def QtopD (P : Program) (fn : Func) (R : Ending → World → Prop) : Exit → Env → List Nat → World → Prop
  | .normal, env, ds, w => downs P ds w fun w' => retK P fn.results.toList env w' fun vs => R (.returned (pack vs)) w'
  | .ret, env, ds, w => downs P ds w fun w' => retK P fn.results.toList env w' fun vs => R (.returned (pack vs)) w'
  | _, _, _, _ => False

theorem callsD_of_ev {f : FuncId} {fn : Func} {td : TD} {args : List Value} {w : World} {R : Ending → World → Prop} {V : Prop} (hm : P.follows .mixedOrders = true) (hf : P.funcs[f]? = some fn) (hb : fn.body.isSome = true)
    (hc : codeInD (List.range fn.ntmps) fn.ntmps (fn.body.getD .skip) = true) (hd : noDef (fn.body.getD .skip) = true) (hN : Nat.ble args.length fn.ntmps = true)
    (hV : evD P fn.ntmps td (fn.body.getD .skip) (envOf 0 args) [] w (QtopD P fn fun e w' => (∃ v, e = .returned v) ∧ R e w') = V) (h : V) : Calls P f args.toArray w R := by
  rw [← hV] at h
  have hb' : fn.body = some (fn.body.getD .skip) := by
    cases hx : fn.body with
    | none => rw [hx] at hb; cases hb
    | some c => rfl
  have hN' := Nat.le_of_ble_eq_true hN
  have hA0 : Agr (envOf 0 args) fn.ntmps { tmps := args.toArray ++ Array.replicate (fn.ntmps - args.toArray.size) undef, defers := [] } (mks []) := by
    refine ⟨rfl, by simp; omega, fun s v hs => ?_⟩
    obtain ⟨j, hj, hv⟩ := envOf_at args 0 s v hs
    have hjl : j < args.length := (List.getElem?_eq_some_iff.1 hv).1
    have : s = j := by omega
    subst this
    rw [Array.getElem?_append_left (by simpa using hjl)]
    simpa using hv
  refine (callsIn_wide (n := 5)).1 ((callsIn_of_wp_marks (R := fun e w' => (∃ v, e = .returned v) ∧ R e w') hf hb' trivial (evD_wpIn hm (D := List.range fn.ntmps) td _ _ _ _ w _ _ hc hd ?_ hA0 h fun e env' ds' a' w' hA' _ hq => ?_)).mono fun e w' h => h.2)
  · rintro ⟨a, w, h⟩
    obtain ⟨⟨v, hv⟩, _⟩ := h
    cases hv
  have key : ∀ (ds : List Nat) (w' : World), downs P ds w' (fun w' => retK P fn.results.toList env' w' fun vs => (∃ v, Ending.returned (pack vs) = .returned v) ∧ R (.returned (pack vs)) w') →
      LeavesInM Fence.wide 5 P fn a'.tmps (fun e w' => (∃ v, e = .returned v) ∧ R e w') (mks ds) .returning w' := by
    intro ds
    induction ds with
    | nil =>
      intro w' hq
      obtain ⟨vs, hr, hR⟩ := retK_run hA' fn.results.toList _ hq
      refine ⟨pack vs, ?_, hR⟩
      have he : results fn a'.tmps = (do let vs ← fn.results.mapM (resOf a'); pure (if h : vs.size = 1 then vs[0] else .tuple vs)) := by
        unfold results
        congr 1
      rw [he, Array.mapM_eq_mapM_toList]
      simp only [Sem.run_bind, Sem.run_map, hr, Result.andThen_ok]
      rw [← pack_eq vs]
      rfl
    | cons D ds ih =>
      intro w' hq
      obtain ⟨w2, hr, hq⟩ := hq
      exact ⟨by simp, .inl ⟨D, w2, rfl, hr, ih w2 hq⟩⟩
  cases e <;> simp only [QtopD] at hq
  case normal =>
    simp only [bodyPostM]
    rw [hA'.defers]
    exact key ds' w' hq
  case ret =>
    simp only [bodyPostM]
    rw [hA'.defers]
    exact key ds' w' hq

/-- A round that goes on. -/
def roundK (e : Exit) (p : Prop) : Prop := match e with
  | .normal => p
  | _ => False

/-- A range over a function with one loop variable, whose body goes on in every round. -/
theorem holeOk_rf {α : Type} (hm : P.follows .mixedOrders = true) {g : Operand} {p d id : Nat} {oA : Oper} {body : Code} {L : Env} {ds : List Nat} {w : World} {J : Nat → World → Prop} {gf : Nat} {lb : Array Value} {enc : α → Value} {Kp : World → World → Prop} {S : List α → Prop} {M : Nat} {tc : TC}
    (hg : lk L g = some (.func (.func gf) #[] lb)) (eg : ∀ args w, (callFunc gf args).run P w = .ok (.enter gf args) w)
    (hseq : SeqStopsK Fence.wide 4 P gf lb (fun x => #[enc x]) Kp S (fun _ => True) M w) (hKt : ∀ {A B C : World}, Kp A B → Kp B C → Kp A C)
    (hKb : ∀ (W : World) (l : Nat) (o o' : Obj), w.heap.size ≤ l → W.heap[l]? = some o → o.isCells = false → o.isWalk = false → Kp W (W.putObj l o'))
    (I : List α → World → Prop) (hI : OwnFrom w.heap.size I) (h0 : I [] w) (hoA : oA.op = .assign (.tmp p)) (hdA : oA.dst = some d) (hgA : oA.guard = none) (hp : p < N) (hd : d < N) (hcb : codeIn (List.range N) N body = true) (hnb : noDef body = true)
    (hbody : ∀ (pre : List α) (x : α) (W : World), I pre W → pre.length < M → evC P N tc body ((d, some (enc x)) :: (p, some (enc x)) :: L) W fun e _ w' => roundK e (KeepsFrom w.heap.size W w' ∧ Kp W w' ∧ I (pre ++ [x]) w'))
    (hdone : ∀ (D : Nat) (xs : List α) (W : World), w.heap.size ≤ D → S xs → I xs W → W.heap[D]? = some (.deferred (some [])) → J D W) :
    HoleOk P N (.rangeFunc g #[p] (.region id #[oA] false) body) L ds w J := by
  intro a Q hA hQ
  have hpa : p < a.tmps.size := by rw [hA.size]; exact hp
  refine wpIn_rangeFunc_ownG (F := Fence.wide) (n := 5) rfl (by omega) (hA.eval hg) trivial eg hseq hKt hKb (RowKit.Below.refl _ _) (fun _ => rfl) I (fun _ _ _ => False) hI (fun _ _ _ _ _ h _ _ => h) h0
    (fun x => ({ tmps := a.tmps.setIfInBounds p (enc x), defers := [] } : Act).put (some d) (enc x)) ?_ ?_ ?_ ?_
  · intro l x W K hK
    refine wpIn_region_list ?_
    show wpListIn _ _ _ _ _ [oA] _ W
    refine wpListIn_plain hgA fun K' hK' => ⟨fun f _ => trivial, ?_⟩
    rw [Oper.semAt_eq _ _ _ (by rw [hoA]; simp)]
    have he : ∀ a' : Act, a'.tmps[p]? = some (enc x) → (execOp a'.eval oA).run P W = .ok (.value (enc x)) W := fun a' h => by
      unfold execOp
      simp [hoA, Act.eval, h]
    rw [he _ (by simp [hpa])]
    simp only [Oper.uponIn, hdA]
    refine hK' _ _ ?_
    show K _ W
    simpa using hK
  · intro l pre x W hi hlen
    refine evC_wpIn (F := Fence.wide.inRound l) (n := 5 - 1 - 1) (.inr ⟨l, rfl⟩) hm (df := []) (D := List.range N) tc body _ _ W _ _ hcb hnb ?_ ?_ (hbody pre x W hi hlen) fun e env' a' w' _ _ hq => ?_
    · rintro ⟨_, _, h⟩; exact h
    · have h1 : Agr ((p, some (enc x)) :: L) N { tmps := a.tmps.setIfInBounds p (enc x), defers := [] } [] := by
        refine ⟨rfl, by simp [hA.size], fun s v hs => ?_⟩
        simp only [look] at hs
        cases hb : Nat.beq p s with
        | true =>
          rw [hb] at hs
          simp only [cond_true, Option.some.injEq] at hs
          have := Nat.eq_of_beq_eq_true hb
          subst this
          subst hs
          simp [hpa]
        | false =>
          rw [hb] at hs
          have hne : p ≠ s := fun e => by subst e; simp at hb
          simp only [Array.getElem?_setIfInBounds, if_neg hne]
          exact hA.at_ s v hs
      exact h1.put (d := some d) (by simp [dOk, hd]) (enc x)
    · cases e <;> first | exact hq | exact hq.elim
  · intro D xs W hD hS hi hk
    exact hQ D W (hdone D xs W hD hS hi hk)
  · intro D c pre W hD hS hi hk
    exact hi.elim

end
end Go.Proofs.YtefnlbgkfingfaaDoor.Sx
