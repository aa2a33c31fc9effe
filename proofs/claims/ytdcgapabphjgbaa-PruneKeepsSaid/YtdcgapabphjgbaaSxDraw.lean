/- Regions that draw their order: one canonical order serves every order, where reads are taken first and what changes memory is forced ('evDraw') (conditions: none; any program under mixed orders). -/
import Derived.Test.YtdcgapabphjgbaaSxCode
import Derived.OrdersHeld
namespace Go.Proofs.Ytdcgapabphjgbaa.Sx
open Go
set_option maxRecDepth 8000

variable {df : List Deferred}

section
variable {P : Program} {ops : Array Oper} {Q : Exit → Act → World → Prop} {md : Region.Mode} {S : World → Prop} {T : Nat → Bool}

/-- Operation j waits, at last, for operation i. -/
def waitsT (md : Region.Mode) (ops : Array Oper) : Nat → Nat → Nat → Bool
  | 0, _, _ => false
  | f + 1, j, i => match ops[j]? with
    | none => false
    | some oj => oj.after.toList.any fun e => Region.binds md e && (Nat.beq e.on i || waitsT md ops f e.on i)

def Closed (md : Region.Mode) (ops : Array Oper) (listed : Array Bool) : Prop :=
  ∀ j oj, ops[j]? = some oj → listed.getD j false = true → ∀ e ∈ oj.after, Region.binds md e = true → listed.getD e.on false = true

theorem Closed.start (md : Region.Mode) (ops : Array Oper) (n : Nat) : Closed md ops (Array.replicate n false) := by
  intro j oj _ h
  have : (Array.replicate n false).getD j false = false := by
    rcases Nat.lt_or_ge j n with h | h <;> simp [h]
  rw [this] at h; cases h

theorem Closed.set {listed : Array Bool} (h : Closed md ops listed) {i : Nat} (hi : i ∈ Region.ready md ops listed) : Closed md ops (listed.setIfInBounds i true) := by
  obtain ⟨_, oi, hoi, hall⟩ := mem_ready.1 hi
  intro j oj hj hl e he hb
  by_cases hij : i = j
  · subst hij
    have : oj = oi := Option.some.inj (hj.symm.trans hoi)
    subst this
    exact getD_set_true (hall e he hb)
  · rw [getD_set_ne false hij] at hl
    exact getD_set_true (h j oj hj hl e he hb)

theorem waits_unlisted {listed : Array Bool} (hc : Closed md ops listed) {i : Nat} (hi : listed.getD i false = false) : ∀ (f j : Nat), waitsT md ops f j i = true → listed.getD j false = false ∧ j ∉ Region.ready md ops listed
  | 0, _, h => by simp [waitsT] at h
  | f + 1, j, h => by
    simp only [waitsT] at h
    split at h
    · cases h
    · rename_i oj hj
      obtain ⟨e, he, hb⟩ := List.any_eq_true.1 h
      simp only [Bool.and_eq_true, Bool.or_eq_true] at hb
      have hun : listed.getD e.on false = false := by
        rcases hb.2 with h1 | h1
        · rw [Nat.eq_of_beq_eq_true h1]; exact hi
        · exact (waits_unlisted hc hi f e.on h1).1
      have he' : e ∈ oj.after := by simpa using he
      refine ⟨?_, fun hr => ?_⟩
      · cases hl : listed.getD j false with
        | false => rfl
        | true => have := hc j oj hj hl e he' hb.1; rw [hun] at this; cases this
      · obtain ⟨_, oj', hj', hall⟩ := mem_ready.1 hr
        have : oj' = oj := Option.some.inj (hj'.symm.trans hj)
        subst this
        have := hall e he' hb.1
        rw [hun] at this; cases this

/-- Whatever order is picked from here on, and S holds behind every operation of T. -/
def wpAnyT (P : Program) (md : Region.Mode) (ops : Array Oper) (Q : Exit → Act → World → Prop) (S : World → Prop) (T : Nat → Bool) : Nat → Array Bool → Act → World → Prop
  | 0, listed, a, w => Region.ready md ops listed = [] ∧ Q .normal a w
  | fuel + 1, listed, a, w =>
    (Region.ready md ops listed = [] → Q .normal a w) ∧
    ∀ i ∈ Region.ready md ops listed, wpOp P ops Q i (fun a' w' => (T i = true → S w') ∧ wpAnyT P md ops Q S T fuel (listed.setIfInBounds i true) a' w') a w

theorem wpAny_of_T : ∀ (fuel : Nat) (listed : Array Bool) (a : Act) (w : World), wpAnyT P md ops Q S T fuel listed a w → wpAny P md ops Q fuel listed a w
  | 0, _, _, _, h => h
  | fuel + 1, _, _, _, h => ⟨h.1, fun i hi => wpOp_mono (fun a' w' h' => wpAny_of_T fuel _ a' w' h'.2) (h.2 i hi)⟩

theorem ready_unlisted {i : Nat} {listed : Array Bool} (h : i ∈ Region.ready md ops listed) : listed.getD i false = false := by
  have h0 := (mem_ready.1 h).1
  rcases Nat.lt_or_ge i listed.size with h' | h'
  · simp [h'] at h0 ⊢; exact h0
  · simp [Array.getElem?_eq_none h']

/-- An operation that may come up now may be taken first, if it yields its value in every world that meets S0, and every other one waits for it or keeps S0 and is apart from it. -/
theorem wpAnyT_first {S0 : World → Prop} {i : Nat} {oi : Oper} {v : Value} (hi : ops[i]? = some oi) (hsel : ∀ (j : Nat) (o : Oper) cs b, ops[j]? = some o → o.op ≠ .select cs b)
    (hQ : ∀ c a w, Q (.panic c) (a.put oi.dst v) w → Q (.panic c) a w) (f0 : Nat) (hTi : T i = true → ∀ w, S0 w → S w) :
    ∀ (fuel : Nat) (listed : Array Bool) (a : Act) (w : World), Closed md ops listed →
      (∀ j oj, ops[j]? = some oj → j ≠ i → listed.getD j true = false → waitsT md ops f0 j i = true ∨ (oi.apart ops oj = true ∧ ∀ w', (T j = true → S w') → S0 w')) →
      i ∈ Region.ready md ops listed → YieldsIf P ops S0 oi v a → S0 w →
      wpAnyT P md ops Q S T fuel (listed.setIfInBounds i true) (a.put oi.dst v) w → wpAnyT P md ops Q S T (fuel + 1) listed a w := by
  intro fuel
  induction fuel with
  | zero =>
    intro listed a w _ _ hr hy hS H
    refine ⟨fun h => (by rw [h] at hr; cases hr), fun j hj => ?_⟩
    by_cases hji : j = i
    · subst hji; exact hy.wpOp hi hS ⟨fun h => hTi h _ hS, H⟩
    · have := ready_mono hj hji
      rw [H.1] at this
      cases this
  | succ fuel ih =>
    intro listed a w hc hfree hr hy hS H
    refine ⟨fun h => (by rw [h] at hr; cases hr), fun j hj => ?_⟩
    by_cases hji : j = i
    · subst hji; exact hy.wpOp hi hS ⟨fun h => hTi h _ hS, H⟩
    · have h1 := H.2 j (ready_mono hj hji)
      obtain ⟨hjun, oj, hoj, hall⟩ := mem_ready.1 hj
      have hji' : oi.apart ops oj = true ∧ ∀ w', (T j = true → S w') → S0 w' := by
        rcases hfree j oj hoj hji hjun with h | h
        · exact absurd hj (waits_unlisted hc (ready_unlisted hr) f0 j h).2
        · exact h
      have h2 := wpOp_putIf hoj hji'.1 (fun cs b => hsel i oi cs b hi) (fun cs b => hsel j oj cs b hoj) hQ hy h1
      have hfree' : ∀ k ok, ops[k]? = some ok → k ≠ i → (listed.setIfInBounds j true).getD k true = false → waitsT md ops f0 k i = true ∨ (oi.apart ops ok = true ∧ ∀ w', (T k = true → S w') → S0 w') := by
        intro k ok hk hki hun
        refine hfree k ok hk hki ?_
        by_cases hjk : j = k
        · subst hjk; exact hjun
        · rw [getD_set_ne true hjk] at hun; exact hun
      refine wpOp_mono (fun a' w' h3 => ⟨h3.2.1, ih (listed.setIfInBounds j true) a' w' (hc.set hj) hfree' (ready_mono hr (Ne.symm hji)) h3.1 (hji'.2 w' h3.2.1) ?_⟩) h2
      rw [Array.setIfInBounds_comm _ _ hji]
      exact h3.2.2

theorem wpAnyT_done {listed : Array Bool} {a : Act} {w : World} (hr : Region.ready md ops listed = []) (h : Q .normal a w) : ∀ fuel, wpAnyT P md ops Q S T fuel listed a w
  | 0 => ⟨hr, h⟩
  | _ + 1 => ⟨fun _ => h, by rw [hr]; simp⟩

end

/-- The moves through a region: take first what reads no memory ('tk') or reads what S tells ('ts'); carry out the only one that may come up ('go'); part on a Bool ('sp'). -/
inductive ML where
  | nil | tk (i : Nat) (t : Tag) (r : ML) | ts (i : Nat) (k : Kd) (r : ML) | go (i : Nat) (t : Tag) (r : ML) | sp (s : Nat) (a b : ML)
  | two (i : Nat) (t : Tag) (a : ML) (j : Nat) (t2 : Tag) (b : ML)

/-- May operation i be taken first (needS: it leans on S)? -/
def freeT (ops : Array Oper) (ex : List Nat) (listed : Array Bool) (i : Nat) (needS : Bool) : Bool :=
  match ops[i]? with
  | none => false
  | some oi => (List.range ops.size).all fun j => Nat.beq j i || listed.getD j true || waitsT .any ops ops.size j i ||
      (match ops[j]? with
        | some oj => oi.apart ops oj && (!needS || !isIn ex j)
        | none => false)

def mvOk (ops : Array Oper) (ex : List Nat) : ML → Array Bool → Bool → Bool
  | .nil, listed, _ => (Region.ready .any ops listed).isEmpty
  | .tk i _ ms, listed, al => (Region.ready .any ops listed).contains i && freeT ops ex listed i (!isIn ex i) && (isIn ex i || al) && mvOk ops ex ms (listed.setIfInBounds i true) al
  | .ts i _ ms, listed, al => (Region.ready .any ops listed).contains i && freeT ops ex listed i true && al && mvOk ops ex ms (listed.setIfInBounds i true) al
  | .go i _ ms, listed, al => (match Region.ready .any ops listed with
      | [j] => Nat.beq j i
      | _ => false) && mvOk ops ex ms (listed.setIfInBounds i true) (al && !isIn ex i)
  | .sp _ ms ns, listed, al => mvOk ops ex ms listed al && mvOk ops ex ns listed al
  | .two i _ ms j _ ns, listed, al => (match Region.ready .any ops listed with
      | [x, y] => Nat.beq x i && Nat.beq y j
      | _ => false) && mvOk ops ex ms (listed.setIfInBounds i true) (al && !isIn ex i) && mvOk ops ex ns (listed.setIfInBounds j true) (al && !isIn ex j)

def mvCnt : ML → Nat
  | .nil => 0
  | .tk _ _ ms => mvCnt ms + 1
  | .ts _ _ ms => mvCnt ms + 1
  | .go _ _ ms => mvCnt ms + 1
  | .sp _ ms ns => max (mvCnt ms) (mvCnt ns)
  | .two _ _ ms _ _ ns => max (mvCnt ms) (mvCnt ns) + 1

/-- The whole check of the moves. -/
def movesOk (ops : Array Oper) (ex : List Nat) (ms : ML) : Bool :=
  Region.noSelect ops && Nat.ble (mvCnt ms) ops.size && mvOk ops ex ms (Array.replicate ops.size false) true

/-- One operation that changes memory is carried out; behind it S may be made narrower. -/
def evGo (P : Program) (ops : Array Oper) (ex : List Nat) (S : World → Prop) (i : Nat) (t : Tag) (env : Env) (w : World) (C : (World → Prop) → Env → World → Prop) : Prop :=
  match ops[i]? with
  | none => False
  | some o => match wantE ops env o with
    | some true => evTag P t o env w fun env' w' => bif isIn ex i then C S env' w' else ∃ S' : World → Prop, (∀ w, S' w → S w) ∧ S' w' ∧ C S' env' w'
    | some false => bif isIn ex i then C S (put env o.dst undef) w else (S w ∧ C S (put env o.dst undef) w)
    | none => False

def evDraw (P : Program) (ops : Array Oper) (ex : List Nat) : ML → (World → Prop) → Env → World → (Env → World → Prop) → Prop
  | .nil, _, env, w, K => K env w
  | .sp s ms ns, S, env, w, K => match look env s with
    | some (.bool b) => (b = true → evDraw P ops ex ms S ((s, some (.bool true)) :: env) w K) ∧ (b = false → evDraw P ops ex ns S ((s, some (.bool false)) :: env) w K)
    | _ => False
  | .tk i t ms, S, env, w, K => match ops[i]? with
    | none => False
    | some o => match wantE ops env o with
      | some true => evVal P t o env fun v => evDraw P ops ex ms S (put env o.dst v) w K
      | some false => evDraw P ops ex ms S (put env o.dst undef) w K
      | none => False
  | .ts i k ms, S, env, w, K => match ops[i]? with
    | none => False
    | some o => match wantE ops env o with
      | some true => match semV env o with
        | some s => exKd k fun v => (∀ w', S w' → s.run P w' = .ok v w') ∧ evDraw P ops ex ms S (put env o.dst v) w K
        | none => False
      | some false => evDraw P ops ex ms S (put env o.dst undef) w K
      | none => False
  | .go i t ms, S, env, w, K => evGo P ops ex S i t env w fun S' env' w' => evDraw P ops ex ms S' env' w' K
  | .two i t ms j t2 ns, S, env, w, K => (evGo P ops ex S i t env w fun S' env' w' => evDraw P ops ex ms S' env' w' K) ∧ (evGo P ops ex S j t2 env w fun S' env' w' => evDraw P ops ex ns S' env' w' K)

theorem wpAnyT_mono {P : Program} {ops : Array Oper} {Q : Exit → Act → World → Prop} {md : Region.Mode} {S S' : World → Prop} {T : Nat → Bool} (hS : ∀ w, S' w → S w) : ∀ (fuel : Nat) (listed : Array Bool) (a : Act) (w : World),
    wpAnyT P md ops Q S' T fuel listed a w → wpAnyT P md ops Q S T fuel listed a w
  | 0, _, _, _, h => h
  | fuel + 1, _, _, _, h => ⟨h.1, fun i hi => wpOp_mono (fun a' w' h' => ⟨fun ht => hS _ (h'.1 ht), wpAnyT_mono hS fuel _ a' w' h'.2⟩) (h.2 i hi)⟩

section
variable {P : Program} {N : Nat} {ops : Array Oper} {ex : List Nat} {D : List Nat} {Q : Exit → Act → World → Prop}

theorem freeT_spec {listed : Array Bool} {i : Nat} {oi : Oper} {b : Bool} (hi : ops[i]? = some oi) (h : freeT ops ex listed i b = true) (j : Nat) (oj : Oper) (hj : ops[j]? = some oj) (hne : j ≠ i) (hl : listed.getD j true = false) :
    waitsT .any ops ops.size j i = true ∨ (oi.apart ops oj = true ∧ (b = true → isIn ex j = false)) := by
  unfold freeT at h
  simp only [hi] at h
  have hlt : j < ops.size := (Array.getElem?_eq_some_iff.1 hj).1
  have h1 := List.all_eq_true.1 h j (List.mem_range.2 hlt)
  simp only [hj, Bool.or_eq_true, Bool.and_eq_true, Bool.not_eq_true'] at h1
  rcases h1 with ((h1 | h1) | h1) | h1
  · exact absurd (Nat.eq_of_beq_eq_true h1) hne
  · rw [hl] at h1; cases h1
  · exact .inl h1
  · refine .inr ⟨h1.1, fun hb => ?_⟩
    rcases h1.2 with h2 | h2
    · rw [hb] at h2; cases h2
    · exact h2

theorem evGo_wp {S : World → Prop} {i : Nat} {t : Tag} {env : Env} {a : Act} {w : World} {C : (World → Prop) → Env → World → Prop} {K : Act → World → Prop} (hd : ∀ (i : Nat) (o : Oper), ops[i]? = some o → dOk N o.dst = true) (hA : Agr env N a df)
    (h : evGo P ops ex S i t env w C) (hK : ∀ o, ops[i]? = some o → ∀ S' env' v w', Agr env' N (a.put o.dst v) df → (∀ w, S' w → S w) → (isIn ex i = false → S' w') → C S' env' w' → K (a.put o.dst v) w') :
    wpOp P ops Q i (fun a' w' => ((!isIn ex i) = true → S w') ∧ K a' w') a w := by
  unfold evGo at h
  unfold wpOp
  split at h
  · exact h.elim
  · rename_i o ho
    simp only [ho]
    split at h
    · rename_i hw
      rw [if_pos (wantE_spec hA hw)]
      refine .inl (evTag_wp hA (hd _ o ho) h fun env' v w' hA' hk => ?_)
      cases hx : isIn ex i with
      | true => rw [hx] at hk; exact ⟨fun h => by simp at h, hK o ho S env' v w' hA' (fun _ h => h) (fun h => by rw [hx] at h; cases h) hk⟩
      | false =>
        rw [hx] at hk
        obtain ⟨S', h1, h2, h3⟩ := hk
        exact ⟨fun _ => h1 _ h2, hK o ho S' env' v w' hA' h1 (fun _ => h2) h3⟩
    · rename_i hw
      rw [if_neg (by rw [wantE_spec hA hw]; simp)]
      cases hx : isIn ex i with
      | true => rw [hx] at h; exact ⟨fun h => by simp at h, hK o ho S _ undef w (hA.put (hd _ o ho) undef) (fun _ h => h) (fun h => by rw [hx] at h; cases h) h⟩
      | false => rw [hx] at h; exact ⟨fun _ => h.1, hK o ho S _ undef w (hA.put (hd _ o ho) undef) (fun _ h => h) (fun _ => h.1) h.2⟩
    · exact h.elim

theorem evDraw_any (hsel : Region.noSelect ops = true) (hd : ∀ (i : Nat) (o : Oper), ops[i]? = some o → dOk N o.dst = true) (hD : ∀ (i : Nat) (o : Oper), ops[i]? = some o → dIn D o.dst = true)
    (hQp : ∀ c a w, ¬ Q (.panic c) a w) :
    ∀ (ms : ML) (S : World → Prop) (listed : Array Bool) (al : Bool) (fuel : Nat) (env : Env) (a : Act) (w : World) (K : Env → World → Prop), mvCnt ms ≤ fuel → mvOk ops ex ms listed al = true → Closed .any ops listed → (al = true → S w) →
      Agr env N a df → evDraw P ops ex ms S env w K → (∀ env' a' w', Agr env' N a' df → Same D a a' → K env' w' → Q .normal a' w') →
      wpAnyT P .any ops Q S (fun i => !isIn ex i) fuel listed a w
  | .nil, S, listed, al, fuel, env, a, w, K, _, hm, _, _, hA, h, hK => by
    simp only [mvOk, List.isEmpty_iff] at hm
    simp only [evDraw] at h
    exact wpAnyT_done hm (hK _ _ _ hA (Same.refl _ _) h) fuel
  | .sp s ms ns, S, listed, al, fuel, env, a, w, K, hf, hm, hc, hS, hA, h, hK => by
      simp only [evDraw] at h
      simp only [mvOk, Bool.and_eq_true] at hm
      simp only [mvCnt] at hf
      split at h
      · rename_i b hb
        cases b with
        | true => exact evDraw_any hsel hd hD hQp ms S listed al fuel _ a w K (by omega) hm.1 hc hS (hA.know hb) (h.1 rfl) hK
        | false => exact evDraw_any hsel hd hD hQp ns S listed al fuel _ a w K (by omega) hm.2 hc hS (hA.know hb) (h.2 rfl) hK
      · exact h.elim
  | .tk i t ms, S, listed, al, fuel, env, a, w, K, hf, hm, hc, hS, hA, h, hK => by
      simp only [mvCnt] at hf
      obtain ⟨f, rfl⟩ : ∃ f, fuel = f + 1 := ⟨fuel - 1, by omega⟩
      simp only [mvOk, Bool.and_eq_true, Bool.or_eq_true] at hm
      obtain ⟨⟨⟨hr, hfr⟩, hal⟩, hm'⟩ := hm
      have hr' : i ∈ Region.ready .any ops listed := by simpa using hr
      simp only [evDraw] at h
      split at h
      · exact h.elim
      · rename_i o ho
        have take : ∀ (v : Value), (∀ S0 : World → Prop, YieldsIf P ops S0 o v a) → evDraw P ops ex ms S (put env o.dst v) w K → wpAnyT P .any ops Q S (fun i => !isIn ex i) (f + 1) listed a w := by
          intro v hy hk
          have H : wpAnyT P .any ops Q S (fun i => !isIn ex i) f (listed.setIfInBounds i true) (a.put o.dst v) w :=
            evDraw_any hsel hd hD hQp ms S _ al f _ _ w K (by omega) hm' (hc.set hr') hS (hA.put (hd i o ho) v) hk
              fun e2 a2 w2 hA2 hS2 hk2 => hK e2 a2 w2 hA2 ((Same.put (hD i o ho) v).trans hS2) hk2
          cases hx : isIn ex i with
          | true =>
            refine wpAnyT_first (S0 := fun _ => True) ho (Region.noSelect_spec hsel) (fun c a' w' hp => absurd hp (hQp c _ w')) ops.size (by simp [hx]) f listed a w hc (fun j oj hj hji hl => ?_) hr' (hy _) trivial H
            rcases freeT_spec ho hfr j oj hj hji hl with h1 | h1
            · exact .inl h1
            · exact .inr ⟨h1.1, fun _ _ => trivial⟩
          | false =>
            have hal' : al = true := by
              rcases hal with h1 | h1
              · rw [hx] at h1; cases h1
              · exact h1
            refine wpAnyT_first (S0 := S) ho (Region.noSelect_spec hsel) (fun c a' w' hp => absurd hp (hQp c _ w')) ops.size (fun _ _ h => h) f listed a w hc (fun j oj hj hji hl => ?_) hr' (hy _) (hS hal') H
            rcases freeT_spec ho hfr j oj hj hji hl with h1 | h1
            · exact .inl h1
            · exact .inr ⟨h1.1, fun w' hw' => hw' (by simp [h1.2 (by simp [hx])])⟩
        split at h
        · rename_i hw
          obtain ⟨v, hv, hk⟩ := evVal_run hA h
          exact take v (fun S0 => .inl ⟨wantE_spec hA hw, fun w _ => hv w⟩) hk
        · rename_i hw
          exact take undef (fun S0 => .inr ⟨wantE_spec hA hw, rfl⟩) h
        · exact h.elim
  | .ts i k ms, S, listed, al, fuel, env, a, w, K, hf, hm, hc, hS, hA, h, hK => by
      simp only [mvCnt] at hf
      obtain ⟨f, rfl⟩ : ∃ f, fuel = f + 1 := ⟨fuel - 1, by omega⟩
      simp only [mvOk, Bool.and_eq_true] at hm
      obtain ⟨⟨⟨hr, hfr⟩, hal⟩, hm'⟩ := hm
      have hr' : i ∈ Region.ready .any ops listed := by simpa using hr
      simp only [evDraw] at h
      split at h
      · exact h.elim
      · rename_i o ho
        have take : ∀ (v : Value), YieldsIf P ops S o v a → evDraw P ops ex ms S (put env o.dst v) w K → wpAnyT P .any ops Q S (fun i => !isIn ex i) (f + 1) listed a w := by
          intro v hy hk
          have H : wpAnyT P .any ops Q S (fun i => !isIn ex i) f (listed.setIfInBounds i true) (a.put o.dst v) w :=
            evDraw_any hsel hd hD hQp ms S _ al f _ _ w K (by omega) hm' (hc.set hr') hS (hA.put (hd i o ho) v) hk
              fun e2 a2 w2 hA2 hS2 hk2 => hK e2 a2 w2 hA2 ((Same.put (hD i o ho) v).trans hS2) hk2
          refine wpAnyT_first (S0 := S) ho (Region.noSelect_spec hsel) (fun c a' w' hp => absurd hp (hQp c _ w')) ops.size (fun _ _ h => h) f listed a w hc (fun j oj hj hji hl => ?_) hr' hy (hS hal) H
          rcases freeT_spec ho hfr j oj hj hji hl with h1 | h1
          · exact .inl h1
          · exact .inr ⟨h1.1, fun w' hw' => hw' (by simp [h1.2 rfl])⟩
        split at h
        · rename_i hw
          split at h
          · rename_i s hs
            obtain ⟨v, hv, hk⟩ := exKd_imp h
            exact take v (.inl ⟨wantE_spec hA hw, fun w' hw' => opVal (semV_run hA hs) (hv w' hw')⟩) hk
          · exact h.elim
        · rename_i hw
          exact take undef (.inr ⟨wantE_spec hA hw, rfl⟩) h
        · exact h.elim
  | .go i t ms, S, listed, al, fuel, env, a, w, K, hf, hm, hc, hS, hA, h, hK => by
      simp only [mvCnt] at hf
      obtain ⟨f, rfl⟩ : ∃ f, fuel = f + 1 := ⟨fuel - 1, by omega⟩
      simp only [mvOk, Bool.and_eq_true] at hm
      obtain ⟨hr, hm'⟩ := hm
      have hr' : Region.ready .any ops listed = [i] := by
        split at hr
        · rename_i j hj; rw [hj, Nat.eq_of_beq_eq_true hr]
        · cases hr
      have hmem : i ∈ Region.ready .any ops listed := by rw [hr']; simp
      simp only [evDraw] at h
      refine ⟨fun h0 => (by rw [hr'] at h0; cases h0), fun j hj => ?_⟩
      rw [hr', List.mem_singleton] at hj
      subst hj
      exact evGo_wp hd hA h fun o ho S' env' v w' hA' hss hSw hk => wpAnyT_mono hss _ _ _ _ <| evDraw_any hsel hd hD hQp ms S' _ _ f env' _ w' K (by omega) hm' (hc.set hmem) (fun h => hSw (by simp only [Bool.and_eq_true] at h; simpa using h.2)) hA' hk
        fun e2 a2 w2 hA2 hS2 hk2 => hK e2 a2 w2 hA2 ((Same.put (hD _ o ho) v).trans hS2) hk2
  | .two i t ms j t2 ns, S, listed, al, fuel, env, a, w, K, hf, hm, hc, hS, hA, h, hK => by
      simp only [mvCnt] at hf
      obtain ⟨f, rfl⟩ : ∃ f, fuel = f + 1 := ⟨fuel - 1, by omega⟩
      simp only [mvOk, Bool.and_eq_true] at hm
      obtain ⟨⟨hr, hm1⟩, hm2⟩ := hm
      have hr' : Region.ready .any ops listed = [i, j] := by
        split at hr
        · rename_i x y hj
          simp only [Bool.and_eq_true] at hr
          rw [hj, Nat.eq_of_beq_eq_true hr.1, Nat.eq_of_beq_eq_true hr.2]
        · cases hr
      have hmi : i ∈ Region.ready .any ops listed := by rw [hr']; simp
      have hmj : j ∈ Region.ready .any ops listed := by rw [hr']; simp
      simp only [evDraw] at h
      refine ⟨fun h0 => (by rw [hr'] at h0; cases h0), fun x hx => ?_⟩
      rw [hr'] at hx
      by_cases e : x = i
      · subst e
        exact evGo_wp hd hA h.1 fun o ho S' env' v w' hA' hss hSw hk => wpAnyT_mono hss _ _ _ _ <| evDraw_any hsel hd hD hQp ms S' _ _ f env' _ w' K (by omega) hm1 (hc.set hmi) (fun h => hSw (by simp only [Bool.and_eq_true] at h; simpa using h.2)) hA' hk
          fun e2 a2 w2 hA2 hS2 hk2 => hK e2 a2 w2 hA2 ((Same.put (hD _ o ho) v).trans hS2) hk2
      · have e2 : x = j := by
          simp only [List.mem_cons, List.not_mem_nil, or_false] at hx
          rcases hx with h | h
          · exact absurd h e
          · exact h
        subst e2
        exact evGo_wp hd hA h.2 fun o ho S' env' v w' hA' hss hSw hk => wpAnyT_mono hss _ _ _ _ <| evDraw_any hsel hd hD hQp ns S' _ _ f env' _ w' K (by omega) hm2 (hc.set hmj) (fun h => hSw (by simp only [Bool.and_eq_true] at h; simpa using h.2)) hA' hk
          fun e2 a2 w2 hA2 hS2 hk2 => hK e2 a2 w2 hA2 ((Same.put (hD _ o ho) v).trans hS2) hk2

end
end Go.Proofs.Ytdcgapabphjgbaa.Sx
