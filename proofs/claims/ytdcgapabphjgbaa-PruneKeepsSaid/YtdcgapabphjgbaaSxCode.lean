/- The verification conditions of regions and codes ('evOps', 'evC'), and that they give the model's 'wp' and 'Calls' (conditions: none; any program). -/
import Derived.Test.YtdcgapabphjgbaaSxEval
namespace Go.Proofs.Ytdcgapabphjgbaa.Sx
open Go
set_option maxRecDepth 8000

variable {df : List Deferred}

def isIn (D : List Nat) (s : Nat) : Bool := D.any fun t => Nat.beq t s
theorem isIn_spec {D : List Nat} {s : Nat} (h : isIn D s = true) : s ∈ D := by
  obtain ⟨t, ht, he⟩ := List.any_eq_true.1 h
  rw [← Nat.eq_of_beq_eq_true he]; exact ht

def Same (D : List Nat) (a a' : Act) : Prop := ∀ s, s ∉ D → a'.tmps[s]? = a.tmps[s]?
theorem Same.refl (D : List Nat) (a : Act) : Same D a a := fun _ _ => rfl
theorem Same.trans {D : List Nat} {a b c : Act} (h : Same D a b) (k : Same D b c) : Same D a c := fun s hs => (k s hs).trans (h s hs)

def dIn (D : List Nat) : Option Tmp → Bool
  | some s => isIn D s
  | none => true

theorem Same.put {D : List Nat} {a : Act} {d : Option Tmp} (h : dIn D d = true) (v : Value) : Same D a (a.put d v) := by
  intro s hs
  cases d with
  | none => rfl
  | some t =>
    have := isIn_spec h
    have hne : t ≠ s := fun e => hs (e ▸ this)
    simp [Act.put, hne]

/-- Every operation of the code writes a slot of D, below N. -/
def codeIn (D : List Nat) (N : Nat) : Code → Bool
  | .region _ ops _ => ops.toList.all fun o => dIn D o.dst && dOk N o.dst
  | .seq a b => codeIn D N a && codeIn D N b
  | .cond _ a b => codeIn D N a && codeIn D N b
  | .block _ a => codeIn D N a
  | .loop a => codeIn D N a
  | .skip | .exit _ | .ret | .label _ => true
  | _ => false

def pures (P : Program) (ops : Array Oper) : List Oper → Env → Option Env
  | [], env => some env
  | o :: l, env => match wantE ops env o with
    | some true => match pv P env o with
      | some v => pures P ops l (put env o.dst v)
      | none => none
    | _ => none

def skips (ops : Array Oper) : List Oper → Env → Option Env
  | [], env => some env
  | o :: l, env => match wantE ops env o with
    | some false => skips ops l (put env o.dst undef)
    | _ => none

def apV (b want q q2 : Bool) : Bool := match want, q2 with
  | true, false => b && q
  | false, true => b || q
  | _, _ => bif b == want then q else q2

theorem apV_yes (want q q2 : Bool) : apV want want q q2 = q := by cases want <;> cases q <;> cases q2 <;> rfl
theorem apV_no (want q q2 : Bool) : apV (!want) want q q2 = q2 := by cases want <;> cases q <;> cases q2 <;> rfl

def dsts : List Oper → List Nat
  | [] => []
  | o :: l => match o.dst with
    | some s => s :: dsts l
    | none => dsts l

/-- A group of guarded operations with the pick behind it: '&&', '||'. -/
def apE (P : Program) (ops : Array Oper) (n : Nat) (l : List Oper) (env : Env) : Option Env :=
  match l.take n, l.drop n with
  | g :: gs, pk :: _ => match g.guard, pk.guard, pk.op with
    | some (_, want), none, .pick (.tmp d) x y => match look env d with
      | some (.bool b) => match pures P ops (g :: gs) ((d, some (.bool want)) :: env), skips ops (g :: gs) ((d, some (.bool !want)) :: env) with
        | some e1, some e2 => match lk e1 (.tmp d), lk e2 (.tmp d), lk e1 (bif want then x else y), lk e2 (bif want then y else x) with
          | some (.bool c1), some (.bool c2), some (.bool q), some (.bool q2) => bif (c1 == want) && (c2 == !want) then some (put (forget (dsts (g :: gs)) env) pk.dst (.bool (apV b want q q2))) else none
          | _, _, _, _ => none
        | _, _ => none
      | _ => none
    | _, _, _ => none
  | _, _ => none

def evStep (P : Program) (ops : Array Oper) (t : Tag) (l : List Oper) (env : Env) (w : World) (C : List Oper → Env → World → Prop) : Prop :=
  match l with
  | [] => False
  | o :: l' => match wantE ops env o with
    | some true => evTag P t o env w fun env' w' => C l' env' w'
    | some false => C l' (put env o.dst undef) w
    | none => False

/-- The tags of a region: one an operation; a group of guarded ones with its pick; parting on a Bool. -/
inductive TL where
  | nil | op (t : Tag) (r : TL) | ap (n : Nat) (r : TL) | sp (s : Nat) (a b : TL)

def evOps (P : Program) (ops : Array Oper) : TL → List Oper → Env → World → (Env → World → Prop) → Prop
  | .nil, l, env, w, K => match l with
    | [] => K env w
    | _ :: _ => False
  | .sp s ts us, l, env, w, K => match look env s with
    | some (.bool b) => (b = true → evOps P ops ts l ((s, some (.bool true)) :: env) w K) ∧ (b = false → evOps P ops us l ((s, some (.bool false)) :: env) w K)
    | _ => False
  | .ap n ts, l, env, w, K => match apE P ops n l env with
    | some env' => evOps P ops ts (l.drop (n + 1)) env' w K
    | none => False
  | .op t ts, l, env, w, K => evStep P ops t l env w fun l' env' w' => evOps P ops ts l' env' w' K

section
variable {P : Program} {env : Env} {N : Nat} {a : Act} {w : World} {ops : Array Oper} {Q : Exit → Act → World → Prop}

theorem Agr.know {s : Nat} {v : Value} (hA : Agr env N a df) (h : look env s = some v) : Agr ((s, some v) :: env) N a df :=
  ⟨hA.defers, hA.size, fun t u ht => by
    simp only [look] at ht
    cases hb : Nat.beq s t with
    | true => rw [hb] at ht; simp only [cond_true, Option.some.injEq] at ht; rw [← Nat.eq_of_beq_eq_true hb, ← ht]; exact hA.at_ s v h
    | false => rw [hb] at ht; exact hA.at_ t u ht⟩

theorem wl_pure {o : Oper} {rest : List Oper} {v : Value} (hw : Region.wanted o (yielded ops a.tmps) = true) (hr : (execOp a.eval o).run P w = .ok (.value v) w)
    (h : wpList P ops Q rest (a.put o.dst v) w) : wpList P ops Q (o :: rest) a w := by
  refine wpList_step fun K hK => ?_
  rw [if_pos hw]
  exact wp_value hr (hK _ _ h)

theorem wl_skip {o : Oper} {rest : List Oper} (hw : Region.wanted o (yielded ops a.tmps) = false)
    (h : wpList P ops Q rest (a.put o.dst undef) w) : wpList P ops Q (o :: rest) a w := by
  refine wpList_step fun K hK => ?_
  rw [if_neg (by rw [hw]; simp)]
  exact hK _ _ h

theorem wl_pures {rest : List Oper} : ∀ (gs : List Oper) {env e1 : Env} {a : Act}, Agr env N a df → (∀ o ∈ gs, dOk N o.dst = true) → pures P ops gs env = some e1 →
    (∀ a', Agr e1 N a' df → Same (dsts gs) a a' → wpList P ops Q rest a' w) → wpList P ops Q (gs ++ rest) a w
  | [], env, e1, a, hA, _, h, hK => by
    simp only [pures, Option.some.injEq] at h
    subst h
    exact hK a hA (Same.refl _ _)
  | o :: l, env, e1, a, hA, hd, h, hK => by
    simp only [pures] at h
    split at h
    · rename_i hw
      split at h
      · rename_i v hv
        refine wl_pure (wantE_spec hA hw) (pv_run hA hv) ?_
        refine wl_pures l (hA.put (hd o (by simp)) v) (fun o' ho' => hd o' (by simp [ho'])) h fun a' hA' hS => hK a' hA' ?_
        intro s hs
        have h1 : s ∉ dsts l := fun hm => hs (by simp only [dsts]; split <;> simp [hm])
        rw [hS s h1]
        cases hdst : o.dst with
        | none => rfl
        | some t =>
          have hne : t ≠ s := fun e => hs (by simp [dsts, hdst, e])
          simp [Act.put, hne]
      · cases h
    · cases h

theorem wl_skips {rest : List Oper} : ∀ (gs : List Oper) {env e1 : Env} {a : Act}, Agr env N a df → (∀ o ∈ gs, dOk N o.dst = true) → skips ops gs env = some e1 →
    (∀ a', Agr e1 N a' df → Same (dsts gs) a a' → wpList P ops Q rest a' w) → wpList P ops Q (gs ++ rest) a w
  | [], env, e1, a, hA, _, h, hK => by
    simp only [skips, Option.some.injEq] at h
    subst h
    exact hK a hA (Same.refl _ _)
  | o :: l, env, e1, a, hA, hd, h, hK => by
    simp only [skips] at h
    split at h
    · rename_i hw
      refine wl_skip (wantE_spec hA hw) ?_
      refine wl_skips l (hA.put (hd o (by simp)) undef) (fun o' ho' => hd o' (by simp [ho'])) h fun a' hA' hS => hK a' hA' ?_
      intro s hs
      have h1 : s ∉ dsts l := fun hm => hs (by simp only [dsts]; split <;> simp [hm])
      rw [hS s h1]
      cases hdst : o.dst with
      | none => rfl
      | some t =>
        have hne : t ≠ s := fun e => hs (by simp [dsts, hdst, e])
        simp [Act.put, hne]
    · cases h

theorem Agr.same {D : List Nat} {a' : Act} (hA : Agr env N a df) (hd : a'.defers = df) (hs : a'.tmps.size = N) (h : Same D a a') : Agr (Sx.forget D env) N a' df :=
  ⟨hd, hs, fun s v hv => by
    obtain ⟨h1, h2⟩ := look_forget hv
    rw [h s h2]; exact hA.at_ s v h1⟩

theorem apE_wl {n : Nat} {l : List Oper} {env' : Env} (hA : Agr env N a df) (hd : ∀ o ∈ l, dOk N o.dst = true) (h : apE P ops n l env = some env')
    (hK : ∀ a', Agr env' N a' df → Same (dsts l) a a' → wpList P ops Q (l.drop (n + 1)) a' w) : wpList P ops Q l a w := by
  unfold apE at h
  split at h
  case h_2 => cases h
  rename_i g gs pk rst hl1 hl2
  split at h
  case h_2 => cases h
  rename_i jg want d x y hg hpg hpo
  split at h
  case h_2 => cases h
  rename_i b hb
  split at h
  case h_2 => cases h
  rename_i e1 e2 hp hs
  split at h
  case h_2 => cases h
  rename_i c1 c2 q q2 hc1 hc2 hq hq2
  cases hcc : ((c1 == want) && (c2 == !want)) with
  | false => rw [hcc] at h; cases h
  | true =>
    rw [hcc] at h
    simp only [cond_true, Option.some.injEq] at h
    subst h
    have hrst : l.drop (n + 1) = rst := by rw [← List.drop_drop, hl2]; rfl
    rw [hrst] at hK
    simp only [Bool.and_eq_true, beq_iff_eq] at hcc
    obtain ⟨rfl, rfl⟩ := hcc
    have hl : l = (g :: gs) ++ (pk :: rst) := by rw [← hl1, ← hl2, List.take_append_drop]
    have hdd : ∀ (l1 l2 : List Oper), ∀ s, s ∉ dsts (l1 ++ l2) → s ∉ dsts l1 ∧ s ∉ dsts l2 := by
      intro l1 l2 s
      induction l1 with
      | nil => intro h; exact ⟨by simp [dsts], h⟩
      | cons o l1 ih =>
        intro h
        simp only [List.cons_append, dsts] at h ⊢
        split at h
        · simp only [List.mem_cons, not_or] at h ⊢
          exact ⟨⟨h.1, (ih h.2).1⟩, (ih h.2).2⟩
        · exact ih h
    have hdg : ∀ o ∈ g :: gs, dOk N o.dst = true := fun o ho => hd o (by rw [hl]; exact List.mem_append_left _ ho)
    have hdp : dOk N pk.dst = true := hd pk (by rw [hl]; exact List.mem_append_right _ (by simp))
    have fin : ∀ (a' : Act), Same (dsts (g :: gs)) a a' → Same (dsts l) a (a'.put pk.dst (.bool (apV b c1 q q2))) := by
      intro a' hS s hs
      rw [hl] at hs
      obtain ⟨h1, h2⟩ := hdd _ _ s hs
      rw [← hS s h1]
      cases hdst : pk.dst with
      | none => rfl
      | some t =>
        have hne : t ≠ s := fun e => h2 (by simp [dsts, hdst, e])
        simp [Act.put, hne]
    rw [hl]
    by_cases hbw : b = c1
    · subst hbw
      refine wl_pures (g :: gs) (hA.know hb) hdg hp fun a' hA' hS => ?_
      have hv : pv P e1 { pk with op := .pick (.tmp d) (.tmp d) (.tmp d) } = some (pickV b (.bool b) (.bool b)) := by simp [pv, hc1]
      refine wl_pure (v := .bool (apV b b q q2)) (by simp [Region.wanted, hpg]) ?_ (hK _ ((hA.same hA'.defers hA'.size hS).put hdp _) (fin a' hS))
      unfold execOp
      simp only [hpo]
      rw [hA'.eval hc1, apV_yes]
      cases b <;> simp only [cond_true, cond_false] at hq <;> simp [asBool, hA'.eval hq]
    · have hbn : b = !c1 := by cases b <;> cases c1 <;> simp_all
      have hb' : look env d = some (.bool !c1) := by rw [hb, hbn]
      refine wl_skips (g :: gs) (hA.know hb') hdg hs fun a' hA' hS => ?_
      refine wl_pure (v := .bool (apV b c1 q q2)) (by simp [Region.wanted, hpg]) ?_ (hK _ ((hA.same hA'.defers hA'.size hS).put hdp _) (fin a' hS))
      unfold execOp
      simp only [hpo]
      rw [hA'.eval hc2, hbn, apV_no]
      cases c1 <;> simp only [cond_true, cond_false] at hq2 <;> simp [asBool, hA'.eval hq2]

theorem dsts_mem {D : List Nat} : ∀ {l : List Oper}, (∀ o ∈ l, dIn D o.dst = true) → ∀ s, s ∈ dsts l → s ∈ D
  | [], _, s, h => by simp [dsts] at h
  | o :: l, hD, s, h => by
    simp only [dsts] at h
    have h1 := hD o (by simp)
    split at h
    · rename_i t ht
      simp only [List.mem_cons] at h
      rcases h with rfl | h
      · rw [ht] at h1; exact isIn_spec h1
      · exact dsts_mem (fun x hx => hD x (by simp [hx])) s h
    · exact dsts_mem (fun x hx => hD x (by simp [hx])) s h

theorem evOps_wl {D : List Nat} : ∀ (ts : TL) (l : List Oper) (env : Env) (a : Act) (w : World) (K : Env → World → Prop), Agr env N a df → (∀ o ∈ l, dOk N o.dst = true) → (∀ o ∈ l, dIn D o.dst = true) →
    evOps P ops ts l env w K → (∀ env' a' w', Agr env' N a' df → Same D a a' → K env' w' → Q .normal a' w') → wpList P ops Q l a w
  | .nil, l, env, a, w, K, hA, _, _, h, hK => by
    simp only [evOps] at h
    split at h
    · exact wpList_nil (hK _ _ _ hA (Same.refl _ _) h)
    · exact h.elim
  | .op t ts, l, env, a, w, K, hA, hd, hD, h, hK => by
    simp only [evOps] at h
    cases l with
    | nil => exact h.elim
    | cons o l' =>
      have hd' : ∀ o ∈ l', dOk N o.dst = true := fun x hx => hd x (by simp [hx])
      have hD' : ∀ o ∈ l', dIn D o.dst = true := fun x hx => hD x (by simp [hx])
      simp only [evStep] at h
      split at h
      · rename_i hw
        refine wpList_step fun K' hK' => ?_
        rw [if_pos (wantE_spec hA hw)]
        refine evTag_wp hA (hd o (by simp)) h fun env' v w' hA' hk => hK' _ _ ?_
        exact evOps_wl ts l' env' _ w' K hA' hd' hD' hk fun e2 a2 w2 hA2 hS2 hk2 => hK e2 a2 w2 hA2 ((Same.put (hD o (by simp)) v).trans hS2) hk2
      · rename_i hw
        refine wl_skip (wantE_spec hA hw) ?_
        exact evOps_wl ts l' _ _ w K (hA.put (hd o (by simp)) undef) hd' hD' h fun e2 a2 w2 hA2 hS2 hk2 => hK e2 a2 w2 hA2 ((Same.put (hD o (by simp)) undef).trans hS2) hk2
      · exact h.elim
  | .sp s ts us, l, env, a, w, K, hA, hd, hD, h, hK => by
    simp only [evOps] at h
    split at h
    · rename_i b hb
      cases b with
      | true => exact evOps_wl ts l _ a w K (hA.know hb) hd hD (h.1 rfl) hK
      | false => exact evOps_wl us l _ a w K (hA.know hb) hd hD (h.2 rfl) hK
    · exact h.elim
  | .ap n ts, l, env, a, w, K, hA, hd, hD, h, hK => by
    simp only [evOps] at h
    split at h
    · rename_i env' hap
      refine apE_wl hA hd hap fun a' hA' hS => ?_
      refine evOps_wl ts _ env' a' w K hA' (fun o ho => hd o (List.mem_of_mem_drop ho)) (fun o ho => hD o (List.mem_of_mem_drop ho)) h fun e2 a2 w2 hA2 hS2 hk2 => hK e2 a2 w2 hA2 (Same.trans ?_ hS2) hk2
      intro s hs
      exact hS s fun hm => hs (dsts_mem hD s hm)
    · exact h.elim

end
end Go.Proofs.Ytdcgapabphjgbaa.Sx
