/- The verification condition of a whole function ('evC'), and 'Calls' out of it (conditions: none; any program under mixed orders). -/
import Derived.Test.YtdcgapabphjgbaaSxDraw
namespace Go.Proofs.Ytdcgapabphjgbaa.Sx
open Go
set_option maxRecDepth 8000

variable {df : List Deferred}

/-- A function over typed slots. -/
def Cur : List Kd → Type → Type
  | [], T => World → T
  | .int _ :: ks, T => Int → Cur ks T
  | .bool :: ks, T => Bool → Cur ks T
  | .str :: ks, T => ByteArray → Cur ks T
  | .ptr :: ks, T => Nat → Nat → Cur ks T
  | .slice :: ks, T => Option Addr → Nat → Nat → Cur ks T
  | .agg :: ks, T => Array Value → Cur ks T
  | .val :: ks, T => Value → Cur ks T

def appC {T : Type} (z : T) : (ks : List Kd) → Cur ks T → List (Option Value) → World → T
  | [], F, _, w => F w
  | .int k :: ks, F, some (.int k' n) :: vs, w => if k = k' then appC z ks (F n) vs w else z
  | .bool :: ks, F, some (.bool b) :: vs, w => appC z ks (F b) vs w
  | .str :: ks, F, some (.string s) :: vs, w => appC z ks (F s) vs w
  | .ptr :: ks, F, some (.pointer (some ⟨b, o, none⟩)) :: vs, w => appC z ks (F b o) vs w
  | .slice :: ks, F, some (.slice a n c) :: vs, w => appC z ks (F a n c) vs w
  | .agg :: ks, F, some (.agg cs) :: vs, w => appC z ks (F cs) vs w
  | .val :: ks, F, some v :: vs, w => appC z ks (F v) vs w
  | _ :: _, _, _, _ => z

def alC : (ks : List Kd) → (List Value → Prop) → Prop
  | [], F => F []
  | .int k :: ks, F => ∀ n : Int, alC ks fun vs => F (.int k n :: vs)
  | .bool :: ks, F => ∀ b : Bool, alC ks fun vs => F (.bool b :: vs)
  | .str :: ks, F => ∀ s : ByteArray, alC ks fun vs => F (.string s :: vs)
  | .ptr :: ks, F => ∀ b o : Nat, alC ks fun vs => F (.pointer (some ⟨b, o, none⟩) :: vs)
  | .slice :: ks, F => ∀ (a : Option Addr) (n c : Nat), alC ks fun vs => F (.slice a n c :: vs)
  | .agg :: ks, F => ∀ cs : Array Value, alC ks fun vs => F (.agg cs :: vs)
  | .val :: ks, F => ∀ v : Value, alC ks fun vs => F (v :: vs)

/-- Where a relation over typed slots holds, all slots are known and of their kinds. -/
theorem alC_app {w : World} : ∀ {ks : List Kd} {I : Cur ks Prop} {os : List (Option Value)} {F : List Value → Prop}, os.length = ks.length → appC False ks I os w → alC ks F → ∃ vs : List Value, os = vs.map some ∧ F vs
  | [], _, [], F, _, _, h => ⟨[], rfl, h⟩
  | [], _, _ :: _, _, hl, _, _ => by simp at hl
  | k :: ks, I, [], F, hl, _, _ => by simp at hl
  | k :: ks, I, o :: os, F, hl, ha, h => by
    have hl' : os.length = ks.length := by simpa using hl
    cases k
    case int k =>
      cases o with
      | none => simp [appC] at ha
      | some v =>
        cases v <;> simp only [appC] at ha
        rename_i k' n
        split at ha
        · rename_i e; subst e
          obtain ⟨vs, h1, h2⟩ := alC_app hl' ha (h n)
          exact ⟨_ :: vs, by rw [h1]; rfl, h2⟩
        · exact ha.elim
    case bool =>
      cases o with
      | none => simp [appC] at ha
      | some v =>
        cases v <;> simp only [appC] at ha
        obtain ⟨vs, h1, h2⟩ := alC_app hl' ha (h _)
        exact ⟨_ :: vs, by rw [h1]; rfl, h2⟩
    case str =>
      cases o with
      | none => simp [appC] at ha
      | some v =>
        cases v <;> simp only [appC] at ha
        obtain ⟨vs, h1, h2⟩ := alC_app hl' ha (h _)
        exact ⟨_ :: vs, by rw [h1]; rfl, h2⟩
    case ptr =>
      cases o with
      | none => simp [appC] at ha
      | some v =>
        cases v <;> (try (simp [appC] at ha; done))
        rename_i p
        cases p with
        | none => simp [appC] at ha
        | some ad =>
          obtain ⟨b, f, sp⟩ := ad
          cases sp with
          | some _ => simp [appC] at ha
          | none =>
            simp only [appC] at ha
            obtain ⟨vs, h1, h2⟩ := alC_app hl' ha (h _ _)
            exact ⟨_ :: vs, by rw [h1]; rfl, h2⟩
    case slice =>
      cases o with
      | none => simp [appC] at ha
      | some v =>
        cases v <;> simp only [appC] at ha
        obtain ⟨vs, h1, h2⟩ := alC_app hl' ha (h _ _ _)
        exact ⟨_ :: vs, by rw [h1]; rfl, h2⟩
    case agg =>
      cases o with
      | none => simp [appC] at ha
      | some v =>
        cases v <;> simp only [appC] at ha
        obtain ⟨vs, h1, h2⟩ := alC_app hl' ha (h _)
        exact ⟨_ :: vs, by rw [h1]; rfl, h2⟩
    case val =>
      cases o with
      | none => simp [appC] at ha
      | some v =>
        simp only [appC] at ha
        obtain ⟨vs, h1, h2⟩ := alC_app hl' ha (h _)
        exact ⟨_ :: vs, by rw [h1]; rfl, h2⟩

def looks (env : Env) : List Nat → List (Option Value)
  | [] => []
  | s :: r => look env s :: looks env r

def sets : List Nat → List Value → Env → Env
  | s :: r, v :: vs, env => (s, some v) :: sets r vs env
  | _, _, env => env

/-- The shape of a code with what the reckoner is told of it. -/
inductive TC where
  | reg (ts : TL)
  | draw (ms : ML) (ex : List Nat)
  | drawS (ms : ML) (ex : List Nat)
  | seq (a b : TC)
  | cond (a b : TC)
  | ct (a : TC)
  | cf (a : TC)
  | blk (a : TC)
  | loop (asg live : List Nat) (ks : List Kd) (a : TC)
  | join (asg live : List Nat) (ks : List Kd) (a : TC)
  | leaf

def evC (P : Program) (N : Nat) : TC → Code → Env → World → (Exit → Env → World → Prop) → Prop
  | .reg ts, .region _ ops false, env, w, Q => evOps P ops ts ops.toList env w fun env' w' => Q .normal env' w'
  | .draw ms ex, .region _ ops true, env, w, Q => bif movesOk ops ex ms then evDraw P ops ex ms (fun _ => True) env w.drew (fun env' w' => Q .normal env' w') else False
  | .drawS ms ex, .region _ ops true, env, w, Q => bif movesOk ops ex ms then ∃ S : World → Prop, S w.drew ∧ evDraw P ops ex ms S env w.drew (fun env' w' => Q .normal env' w') else False
  | .seq a b, .seq x y, env, w, Q => evC P N a x env w fun e env' w' => match e with
    | .normal => evC P N b y env' w' Q
    | e => Q e env' w'
  | .cond a b, .cond c x y, env, w, Q => match lk env c with
    | some (.bool t) => (t = true → evC P N a x env w Q) ∧ (t = false → evC P N b y env w Q)
    | _ => False
  | .ct a, .cond c x _, env, w, Q => match lk env c with
    | some (.bool true) => evC P N a x env w Q
    | _ => False
  | .cf b, .cond c _ y, env, w, Q => match lk env c with
    | some (.bool false) => evC P N b y env w Q
    | _ => False
  | .blk a, .block id x, env, w, Q => evC P N a x env w fun e env' w' => match e with
    | .exit id' => bif Nat.beq id' id then Q .normal env' w' else Q (.exit id') env' w'
    | e => Q e env' w'
  | .loop asg live ks a, .loop x, env, w, Q => bif codeIn asg N x && Nat.beq live.length ks.length then
      ∃ (I : Cur ks Prop) (μ : Cur ks Nat), appC False ks I (looks env live) w ∧ alC ks fun vs => ∀ w, appC False ks I (vs.map some) w →
        evC P N a x (sets live vs (forget asg env)) w fun e env' w' => match e with
          | .normal => appC False ks I (looks env' live) w' ∧ appC 0 ks μ (looks env' live) w' < appC 0 ks μ (vs.map some) w
          | e => Q e env' w'
      else False
  | .join asg live ks a, x, env, w, Q => bif codeIn asg N x && Nat.beq live.length ks.length then
      ∃ J : Cur ks Prop, evC P N a x env w (fun e env' w' => match e with
          | .normal => appC False ks J (looks env' live) w'
          | e => Q e env' w') ∧
        alC ks fun vs => ∀ w, appC False ks J (vs.map some) w → Q .normal (sets live vs (forget asg env)) w
      else False
  | .leaf, .skip, env, w, Q => Q .normal env w
  | .leaf, .label _, env, w, Q => Q .normal env w
  | .leaf, .exit id, env, w, Q => Q (.exit id) env w
  | .leaf, .ret, env, w, Q => Q .ret env w
  | _, _, _, _, _ => False

theorem looks_length (env : Env) : ∀ l, (looks env l).length = l.length
  | [] => rfl
  | _ :: r => by simp [looks, looks_length env r]

section
variable {P : Program} {N : Nat}

theorem codeIn_region {D : List Nat} {id : Nat} {ops : Array Oper} {d : Bool} (h : codeIn D N (.region id ops d) = true) : (∀ o ∈ ops.toList, dOk N o.dst = true) ∧ ∀ o ∈ ops.toList, dIn D o.dst = true := by
  simp only [codeIn] at h
  have h' := List.all_eq_true.1 h
  exact ⟨fun o ho => by have := h' o ho; simp only [Bool.and_eq_true] at this; exact this.2, fun o ho => by have := h' o ho; simp only [Bool.and_eq_true] at this; exact this.1⟩

theorem Agr.sets {env : Env} {a : Act} (hA : Agr env N a df) : ∀ (live : List Nat) (vs : List Value), live.length = vs.length → (∀ (i s : Nat) (v : Value), live[i]? = some s → vs[i]? = some v → a.tmps[s]? = some v) → Agr (Sx.sets live vs env) N a df
  | [], vs, _, _ => by cases vs <;> exact hA
  | s :: r, [], h, _ => by simp at h
  | s :: r, v :: vs, h, hv => by
    have ih := Agr.sets hA r vs (by simpa using h) (fun i s' v' h1 h2 => hv (i + 1) s' v' (by simpa using h1) (by simpa using h2))
    refine ⟨ih.defers, ih.size, fun t u ht => ?_⟩
    simp only [Sx.sets, look] at ht
    cases hb : Nat.beq s t with
    | true =>
      rw [hb] at ht
      simp only [cond_true, Option.some.injEq] at ht
      rw [← Nat.eq_of_beq_eq_true hb, ← ht]
      exact hv 0 s v rfl rfl
    | false => rw [hb] at ht; exact ih.at_ t u ht

theorem looks_at {env : Env} {a : Act} (hA : Agr env N a df) : ∀ (live : List Nat) (vs : List Value), looks env live = vs.map some → ∀ (i s : Nat) (v : Value), live[i]? = some s → vs[i]? = some v → a.tmps[s]? = some v
  | [], _, _, i, s, v, h, _ => by simp at h
  | t :: r, [], h, _, _, _, _, _ => by simp [looks] at h
  | t :: r, u :: vs, h, 0, s, v, h1, h2 => by
    simp only [looks, List.map_cons, List.cons.injEq] at h
    simp only [List.getElem?_cons_zero, Option.some.injEq] at h1 h2
    subst h1; subst h2
    exact hA.at_ _ _ h.1
  | t :: r, u :: vs, h, i + 1, s, v, h1, h2 => by
    simp only [looks, List.map_cons, List.cons.injEq] at h
    exact looks_at hA r vs h.2 i s v (by simpa using h1) (by simpa using h2)

/-- What the slots of an act hold. -/
def slots (a : Act) : List Nat → List (Option Value)
  | [] => []
  | s :: r => a.tmps[s]? :: slots a r

theorem slots_eq {env : Env} {a : Act} (hA : Agr env N a df) : ∀ (live : List Nat) (vs : List Value), looks env live = vs.map some → slots a live = vs.map some
  | [], [], _ => rfl
  | [], _ :: _, h => by simp [looks] at h
  | t :: r, [], h => by simp [looks] at h
  | t :: r, u :: vs, h => by
    simp only [looks, List.map_cons, List.cons.injEq] at h
    simp only [slots, List.map_cons, List.cons.injEq]
    exact ⟨hA.at_ _ _ h.1, slots_eq hA r vs h.2⟩

theorem alC_any {w : World} {ks : List Kd} {I : Cur ks Prop} {os : List (Option Value)} (hl : os.length = ks.length) (h : appC False ks I os w) : ∃ vs : List Value, os = vs.map some := by
  have : ∀ ks : List Kd, alC ks fun _ => True := by
    intro ks
    induction ks with
    | nil => trivial
    | cons k ks ih => cases k <;> simp only [alC] <;> (intros; exact ih)
  obtain ⟨vs, h, _⟩ := alC_app hl h (this ks)
  exact ⟨vs, h⟩

theorem isIn_mem {D : List Nat} {s : Nat} (h : s ∈ D) : isIn D s = true := List.any_eq_true.2 ⟨s, h, by simp⟩

theorem dIn_inter {D E : List Nat} {d : Option Tmp} (h1 : dIn D d = true) (h2 : dIn E d = true) : dIn (D.filter (isIn E)) d = true := by
  cases d with
  | none => rfl
  | some s => exact isIn_mem (List.mem_filter.2 ⟨isIn_spec h1, h2⟩)

theorem codeIn_inter {D E : List Nat} : ∀ {c : Code}, codeIn D N c = true → codeIn E N c = true → codeIn (D.filter (isIn E)) N c = true := by
  intro c
  induction c with
  | region id ops d =>
    intro h1 h2
    obtain ⟨a1, a2⟩ := codeIn_region h1
    obtain ⟨_, b2⟩ := codeIn_region h2
    exact List.all_eq_true.2 fun o ho => by rw [dIn_inter (a2 o ho) (b2 o ho), a1 o ho]; rfl
  | seq a b iha ihb =>
    intro h1 h2
    simp only [codeIn, Bool.and_eq_true] at *
    exact ⟨iha h1.1 h2.1, ihb h1.2 h2.2⟩
  | cond o a b iha ihb =>
    intro h1 h2
    simp only [codeIn, Bool.and_eq_true] at *
    exact ⟨iha h1.1 h2.1, ihb h1.2 h2.2⟩
  | block id a iha => intro h1 h2; exact iha h1 h2
  | loop a iha => intro h1 h2; exact iha h1 h2
  | skip => intro _ _; rfl
  | exit id => intro _ _; rfl
  | ret => intro _ _; rfl
  | label l => intro _ _; rfl
  | _ => intro h1 _; cases h1

theorem evC_wp (hm : P.follows .mixedOrders = true) {D : List Nat} : ∀ (tc : TC) (c : Code) (env : Env) (a : Act) (w : World) (Q : Exit → Env → World → Prop) (Q' : Exit → Act → World → Prop), codeIn D N c = true → Agr env N a df →
    evC P N tc c env w Q → (∀ e env' a' w', Agr env' N a' df → Same D a a' → Q e env' w' → Q' e a' w') → c.wp P Q' a w := by
  intro tc
  induction tc generalizing D with
  | reg ts =>
    intro c env a w Q Q' hc hA h hK
    cases c <;> try (exact h.elim)
    rename_i id ops d
    cases d with
    | true => exact h.elim
    | false =>
      obtain ⟨h1, h2⟩ := codeIn_region hc
      exact wp_region_list (evOps_wl (D := D) ts ops.toList env a w _ hA h1 h2 h fun env' a' w' hA' hS hq => hK _ _ _ _ hA' hS hq)
  | draw ms ex =>
    intro c env a w Q Q' hc hA h hK
    cases c <;> try (exact h.elim)
    rename_i id ops d
    cases d with
    | false => exact h.elim
    | true =>
      simp only [evC] at h
      cases hmv : movesOk ops ex ms with
      | false => rw [hmv] at h; exact h.elim
      | true =>
        rw [hmv] at h
        simp only [cond_true] at h
        simp only [movesOk, Bool.and_eq_true] at hmv
        obtain ⟨⟨hsel, hcnt⟩, hmv⟩ := hmv
        obtain ⟨h1, h2⟩ := codeIn_region hc
        refine wp_mono (Q := fun e a w => e = .normal ∧ Q' .normal a w) ?_ (fun e a w ⟨he, hq⟩ => by subst he; exact hq)
        refine wp_region_any hm (wpAny_of_T (S := fun _ => True) (T := fun i => !isIn ex i) _ _ _ _ ?_)
        exact evDraw_any (D := D) hsel (fun i o ho => h1 o (by simpa using Array.mem_of_getElem? ho)) (fun i o ho => h2 o (by simpa using Array.mem_of_getElem? ho)) (fun c a w hp => by simp at hp) ms _ _ true ops.size env a _ _ (Nat.le_of_ble_eq_true hcnt) hmv
          (Closed.start _ _ _) (fun _ => trivial) hA h fun env' a' w' hA' hS hq => ⟨rfl, hK _ _ _ _ hA' hS hq⟩
  | drawS ms ex =>
    intro c env a w Q Q' hc hA h hK
    cases c <;> try (exact h.elim)
    rename_i id ops d
    cases d with
    | false => exact h.elim
    | true =>
      simp only [evC] at h
      cases hmv : movesOk ops ex ms with
      | false => rw [hmv] at h; exact h.elim
      | true =>
        rw [hmv] at h
        simp only [cond_true] at h
        obtain ⟨S, hS0, h⟩ := h
        simp only [movesOk, Bool.and_eq_true] at hmv
        obtain ⟨⟨hsel, hcnt⟩, hmv⟩ := hmv
        obtain ⟨h1, h2⟩ := codeIn_region hc
        refine wp_mono (Q := fun e a w => e = .normal ∧ Q' .normal a w) ?_ (fun e a w ⟨he, hq⟩ => by subst he; exact hq)
        refine wp_region_any hm (wpAny_of_T (S := S) (T := fun i => !isIn ex i) _ _ _ _ ?_)
        exact evDraw_any (D := D) hsel (fun i o ho => h1 o (by simpa using Array.mem_of_getElem? ho)) (fun i o ho => h2 o (by simpa using Array.mem_of_getElem? ho)) (fun c a w hp => by simp at hp) ms _ _ true ops.size env a _ _ (Nat.le_of_ble_eq_true hcnt) hmv
          (Closed.start _ _ _) (fun _ => hS0) hA h fun env' a' w' hA' hS hq => ⟨rfl, hK _ _ _ _ hA' hS hq⟩
  | seq x y ihx ihy =>
    intro c env a w Q Q' hc hA h hK
    cases c <;> try (exact h.elim)
    rename_i cx cy
    simp only [codeIn, Bool.and_eq_true] at hc
    refine wp_seq (ihx cx env a w _ _ hc.1 hA h fun e env' a' w' hA' hS hq => ?_)
    cases e with
    | normal => exact ihy cy env' a' w' Q Q' hc.2 hA' hq fun e2 env2 a2 w2 hA2 hS2 hq2 => hK e2 env2 a2 w2 hA2 (hS.trans hS2) hq2
    | _ => exact hK _ _ _ _ hA' hS hq
  | cond x y ihx ihy =>
    intro c env a w Q Q' hc hA h hK
    cases c <;> try (exact h.elim)
    rename_i o cx cy
    simp only [codeIn, Bool.and_eq_true] at hc
    simp only [evC] at h
    split at h
    · rename_i t ht
      exact wp_cond_split (hA.eval ht) (fun e => ihx cx env a w Q Q' hc.1 hA (h.1 e) hK) (fun e => ihy cy env a w Q Q' hc.2 hA (h.2 e) hK)
    · exact h.elim
  | ct x ihx =>
    intro c env a w Q Q' hc hA h hK
    cases c <;> try (exact h.elim)
    rename_i o cx cy
    simp only [codeIn, Bool.and_eq_true] at hc
    simp only [evC] at h
    split at h
    · rename_i ht
      exact wp_cond_true (hA.eval ht) (ihx cx env a w Q Q' hc.1 hA h hK)
    · exact h.elim
  | cf y ihy =>
    intro c env a w Q Q' hc hA h hK
    cases c <;> try (exact h.elim)
    rename_i o cx cy
    simp only [codeIn, Bool.and_eq_true] at hc
    simp only [evC] at h
    split at h
    · rename_i ht
      exact wp_cond_false (hA.eval ht) (ihy cy env a w Q Q' hc.2 hA h hK)
    · exact h.elim
  | blk x ihx =>
    intro c env a w Q Q' hc hA h hK
    cases c <;> try (exact h.elim)
    rename_i id cx
    simp only [codeIn] at hc
    refine wp_block (ihx cx env a w _ _ hc hA h fun e env' a' w' hA' hS hq => ?_)
    cases e with
    | exit id' =>
      simp only [Exit.inBlock]
      simp only at hq
      cases hb : Nat.beq id' id with
      | true => rw [if_pos (Nat.eq_of_beq_eq_true hb)]; rw [hb] at hq; exact hK _ _ _ _ hA' hS hq
      | false =>
        have hne : id' ≠ id := fun e => by subst e; simp at hb
        rw [if_neg hne]; rw [hb] at hq; exact hK _ _ _ _ hA' hS hq
    | _ => exact hK _ _ _ _ hA' hS hq
  | loop asg live ks x ihx =>
    intro c env a w Q Q' hc hA h hK
    cases c <;> try (exact h.elim)
    rename_i cx
    simp only [evC] at h
    cases hb : (codeIn asg N cx && Nat.beq live.length ks.length) with
    | false => rw [hb] at h; exact h.elim
    | true =>
      rw [hb] at h
      simp only [cond_true] at h
      obtain ⟨I, μ, h0, hr⟩ := h
      simp only [Bool.and_eq_true] at hb
      have hlen : live.length = ks.length := Nat.eq_of_beq_eq_true hb.2
      simp only [codeIn] at hc
      obtain ⟨vs0, hvs0⟩ := alC_any (by rw [looks_length]; exact hlen) h0
      refine wp_loop (fun a' w' => ∃ vs : List Value, slots a' live = vs.map some ∧ Agr (sets live vs (forget asg env)) N a' df ∧ Agr (forget asg env) N a' df ∧ Same D a a' ∧ appC False ks I (vs.map some) w') (fun a' w' => appC 0 ks μ (slots a' live) w')
        ⟨vs0, slots_eq hA live vs0 hvs0, (hA.forget asg).sets live vs0 (by have := congrArg List.length hvs0; rw [looks_length] at this; simpa using this) (looks_at hA live vs0 hvs0), hA.forget asg, Same.refl _ _, by rw [← hvs0]; exact h0⟩ ?_
      rintro a1 w1 ⟨vs, hsl, hA1, hF1, hS1, hI⟩
      have hsll : ∀ l, (slots a1 l).length = l.length := by intro l; induction l <;> simp_all [slots]
      have hvl : (vs.map some).length = ks.length := by rw [← hsl, hsll]; exact hlen
      obtain ⟨vs', he, hbody⟩ := alC_app hvl hI hr
      have hvv : vs = vs' := by
        have := congrArg (List.filterMap id) he
        simpa using this
      subst hvv
      refine ihx (D := asg.filter (isIn D)) cx _ a1 w1 _ _ (codeIn_inter hb.1 hc) hA1 (hbody w1 hI) fun e env' a' w' hA' hS' hq => ?_
      have hSa : Same asg a1 a' := fun s hs => hS' s fun hm => hs (List.mem_filter.1 hm).1
      have hSD : Same D a1 a' := fun s hs => hS' s fun hm => hs (isIn_spec (List.mem_filter.1 hm).2)
      cases e with
      | normal =>
        obtain ⟨hI', hlt⟩ := hq
        obtain ⟨vs', hvs'⟩ := alC_any (by rw [looks_length]; exact hlen) hI'
        have hF' : Agr (forget asg env) N a' df := ⟨hA'.defers, hA'.size, fun s v hs => by rw [hSa s (look_forget hs).2]; exact hF1.at_ s v hs⟩
        refine ⟨⟨vs', slots_eq hA' live vs' hvs', hF'.sets live vs' (by have := congrArg List.length hvs'; rw [looks_length] at this; simpa using this) (looks_at hA' live vs' hvs'), hF', hS1.trans hSD, by rw [← hvs']; exact hI'⟩, ?_⟩
        rw [slots_eq hA' live vs' hvs', hsl, ← hvs']
        exact hlt
      | _ => exact hK _ _ _ _ hA' (hS1.trans hSD) hq
  | join asg live ks x ihx =>
    intro c env a w Q Q' hc hA h hK
    simp only [evC] at h
    cases hb : (codeIn asg N c && Nat.beq live.length ks.length) with
    | false => rw [hb] at h; exact h.elim
    | true =>
      rw [hb] at h
      simp only [cond_true] at h
      obtain ⟨J, h1, h2⟩ := h
      simp only [Bool.and_eq_true] at hb
      have hlen : live.length = ks.length := Nat.eq_of_beq_eq_true hb.2
      refine ihx (D := asg.filter (isIn D)) c env a w _ _ (codeIn_inter hb.1 hc) hA h1 fun e env' a' w' hA' hS' hq => ?_
      have hSa : Same asg a a' := fun s hs => hS' s fun hm => hs (List.mem_filter.1 hm).1
      have hSD : Same D a a' := fun s hs => hS' s fun hm => hs (isIn_spec (List.mem_filter.1 hm).2)
      cases e with
      | normal =>
        obtain ⟨vs, hvs, hk⟩ := alC_app (by rw [looks_length]; exact hlen) hq h2
        have hF' : Agr (forget asg env) N a' df := ⟨hA'.defers, hA'.size, fun s v hs => by rw [hSa s (look_forget hs).2]; exact hA.at_ s v (look_forget hs).1⟩
        refine hK _ _ _ _ (hF'.sets live vs (by have := congrArg List.length hvs; rw [looks_length] at this; simpa using this) (looks_at hA' live vs hvs)) hSD (hk w' (by rw [← hvs]; exact hq))
      | _ => exact hK _ _ _ _ hA' hSD hq
  | leaf =>
    intro c env a w Q Q' hc hA h hK
    cases c <;> try (exact h.elim)
    · exact wp_skip (hK _ _ _ _ hA (Same.refl _ _) h)
    · exact wp_exit (hK _ _ _ _ hA (Same.refl _ _) h)
    · exact wp_label (hK _ _ _ _ hA (Same.refl _ _) h)
    · exact wp_ret (hK _ _ _ _ hA (Same.refl _ _) h)

end

def envOf : Nat → List Value → Env
  | _, [] => []
  | i, v :: vs => (i, some v) :: envOf (i + 1) vs

def retK (P : Program) : List ResultVar → Env → World → (List Value → Prop) → Prop
  | [], _, _, F => F []
  | .tmp t :: rs, env, w, F => match look env t with
    | some v => retK P rs env w fun vs => F (v :: vs)
    | none => False
  | .cell t ty :: rs, env, w, F => match look env t with
    | some (.pointer (some ad)) => ∃ v, (loadVar ty ad).run P w = .ok v w ∧ retK P rs env w fun vs => F (v :: vs)
    | _ => False

def Qtop (P : Program) (fn : Func) (R : Ending → World → Prop) : Exit → Env → World → Prop
  | .normal, env, w => retK P fn.results.toList env w fun vs => R (.returned (pack vs)) w
  | .ret, env, w => retK P fn.results.toList env w fun vs => R (.returned (pack vs)) w
  | _, _, _ => False

section
variable {P : Program} {N : Nat}

theorem envOf_at : ∀ (vs : List Value) (i s : Nat) (v : Value), look (envOf i vs) s = some v → ∃ j, s = i + j ∧ vs[j]? = some v
  | [], _, _, _, h => by simp [envOf, look] at h
  | u :: vs, i, s, v, h => by
    simp only [envOf, look] at h
    cases hb : Nat.beq i s with
    | true => rw [hb] at h; simp only [cond_true, Option.some.injEq] at h; exact ⟨0, (Nat.eq_of_beq_eq_true hb).symm, by simp [h]⟩
    | false =>
      rw [hb] at h
      obtain ⟨j, hj, hv⟩ := envOf_at vs (i + 1) s v h
      exact ⟨j + 1, by omega, by simpa using hv⟩

theorem pack_eq (vs : List Value) : (if h : vs.toArray.size = 1 then vs.toArray[0] else .tuple vs.toArray) = pack vs := by
  match vs with
  | [] => rfl
  | [v] => rfl
  | u :: v :: r => simp [pack]

def resOf (a : Act) : ResultVar → Sem Value
  | .tmp t => pure (a.tmps.getD t undef)
  | .cell x t => do loadVar t (← asAddr (a.tmps.getD x undef))

theorem retK_run {env : Env} {a : Act} {w : World} (hA : Agr env N a df) : ∀ (rs : List ResultVar) (F : List Value → Prop), retK P rs env w F →
    ∃ vs, (rs.mapM (resOf a)).run P w = .ok vs w ∧ F vs
  | [], F, h => ⟨[], by simp, h⟩
  | .tmp t :: rs, F, h => by
    simp only [retK] at h
    split at h
    · rename_i v hv
      obtain ⟨vs, hr, hF⟩ := retK_run hA rs _ h
      have h1 : (resOf a (.tmp t)).run P w = .ok v w := by simp [resOf, hA.at_ t v hv]
      exact ⟨v :: vs, by rw [List.mapM_cons]; simp only [Sem.run_bind, h1, hr, Result.andThen_ok]; rfl, hF⟩
    · exact h.elim
  | .cell t ty :: rs, F, h => by
    simp only [retK] at h
    split at h
    · rename_i ad hv
      obtain ⟨v, hl, h⟩ := h
      obtain ⟨vs, hr, hF⟩ := retK_run hA rs _ h
      have h1 : (resOf a (.cell t ty)).run P w = .ok v w := by simp [resOf, hA.at_ t _ hv, asAddr, hl]
      exact ⟨v :: vs, by rw [List.mapM_cons]; simp only [Sem.run_bind, h1, hr, Result.andThen_ok]; rfl, hF⟩
    · exact h.elim

theorem calls_of_ev {f : FuncId} {fn : Func} {tc : TC} {args : List Value} {w : World} {R : Ending → World → Prop} {V : Prop} (hm : P.follows .mixedOrders = true) (hf : P.funcs[f]? = some fn) (hb : fn.body.isSome = true)
    (hc : codeIn (List.range fn.ntmps) fn.ntmps (fn.body.getD .skip) = true) (hN : Nat.ble args.length fn.ntmps = true)
    (hV : evC P fn.ntmps tc (fn.body.getD .skip) (envOf 0 args) w (Qtop P fn R) = V) (h : V) : Calls P f args.toArray w R := by
  rw [← hV] at h
  have hb' : fn.body = some (fn.body.getD .skip) := by
    cases hx : fn.body with
    | none => rw [hx] at hb; cases hb
    | some c => rfl
  have hN' := Nat.le_of_ble_eq_true hN
  have hA0 : Agr (envOf 0 args) fn.ntmps { tmps := args.toArray ++ Array.replicate (fn.ntmps - args.toArray.size) undef, defers := [] } [] := by
    refine ⟨rfl, by simp; omega, fun s v hs => ?_⟩
    obtain ⟨j, hj, hv⟩ := envOf_at args 0 s v hs
    have hjl : j < args.length := (List.getElem?_eq_some_iff.1 hv).1
    have : s = j := by omega
    subst this
    rw [Array.getElem?_append_left (by simpa using hjl)]
    simpa using hv
  refine calls_of_wp hf hb' (evC_wp hm (D := List.range fn.ntmps) tc _ _ _ w _ _ hc hA0 h fun e env' a' w' hA' _ hq => ?_)
  have key : retK P fn.results.toList env' w' (fun vs => R (.returned (pack vs)) w') → a'.defers = [] ∧ ∃ v, (results fn a'.tmps).run P w' = .ok v w' ∧ R (.returned v) w' := by
    intro hq
    obtain ⟨vs, hr, hR⟩ := retK_run hA' fn.results.toList _ hq
    refine ⟨hA'.defers, pack vs, ?_, hR⟩
    have he : results fn a'.tmps = (do let vs ← fn.results.mapM (resOf a'); pure (if h : vs.size = 1 then vs[0] else .tuple vs)) := by
      unfold results
      congr 1
    rw [he, Array.mapM_eq_mapM_toList]
    simp only [Sem.run_bind, Sem.run_map, hr, Result.andThen_ok]
    rw [← pack_eq vs]
    rfl
  cases e <;> simp only [Qtop] at hq
  case normal => exact key hq
  case ret => exact key hq

end
end Go.Proofs.Ytdcgapabphjgbaa.Sx
