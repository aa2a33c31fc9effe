/- Codes in rounds, and functions that hold ranges over functions: their verification conditions (conditions: none; any program under mixed orders). -/
import Derived.Test.YtefnlbgkfingfaaDoorSxRun
import Derived.RangeFuncWrites
import Derived.RangeFuncLeaves
import Derived.RangeFuncCalls
import Derived.OrdersIn
namespace Go.Proofs.YtefnlbgkfingfaaDoor.Sx
open Go
set_option maxRecDepth 8000

variable {df : List Deferred}

/-- The fence of everything, and within a round. -/
def FOk (F : Fence) : Prop := F = Fence.wide ∨ ∃ l, F = Fence.wide.inRound l

def noDefO (o : Oper) : Bool := match o.op with
  | .defer _ => false
  | _ => true

/-- No statement defers. -/
def noDef : Code → Bool
  | .region _ ops _ => ops.toList.all noDefO
  | .seq a b => noDef a && noDef b
  | .cond _ a b => noDef a && noDef b
  | .block _ a => noDef a
  | .loop a => noDef a
  | _ => true

section
variable {F : Fence} {n N : Nat} {P : Program} {Q : Exit → Act → World → Prop} {a : Act} {w : World} {ops : Array Oper}

theorem FOk.fn (h : FOk F) (f : FuncId) : F.fn f := by rcases h with rfl | ⟨l, rfl⟩ <;> trivial
theorem FOk.depth (h : FOk F) : F.depth = none := by rcases h with rfl | ⟨l, rfl⟩ <;> rfl
theorem FOk.calls (h : FOk F) {f : FuncId} {args : Array Value} {R : Ending → World → Prop} (hc : Calls P f args w R) : CallsIn F n P f args w R := by
  rcases h with rfl | ⟨l, rfl⟩
  · exact callsIn_wide.2 hc
  · exact CallsIn.inRound l (callsIn_wide.2 hc)
theorem FOk.rows (h : FOk F) {row : String} {args : Array Value} {R : Value → World → Prop} (hc : Rows P row args w R) : RowsIn F n P row args w R := by
  have key : RowsIn Fence.wide n P row args w R := fun c cs _ => by
    obtain ⟨v, w', hr, hs⟩ := hc c cs
    exact ⟨v, w', hr, stepsIn_wide.2 hs⟩
  rcases h with rfl | ⟨l, rfl⟩
  · exact key
  · exact key

theorem wp_wpIn (hF : FOk F) {o : Oper} (hd : noDefO o = true) {K : Act → World → Prop} (h : o.wp P a w K Q) : o.wpIn F n P a w K Q := by
  refine ⟨fun f _ => hF.fn f, ?_⟩
  have hs : o.semAt F.round a.eval = execOp a.eval o := Oper.semAt_eq _ _ _ fun c hc => by simp [noDefO, hc] at hd
  rw [hs]
  unfold Oper.wp at h
  generalize (execOp a.eval o).run P w = r at *
  have hdp : F.depth.isSome = true → 1 ≤ n := by simp [hF.depth]
  cases r with
  | ok x w' =>
    cases x <;> simp only [Oper.upon, Oper.uponIn] at h ⊢
    case value => exact h
    case skip => exact h
    case defer => exact h
    case enter => exact ⟨hdp, hF.calls h⟩
    case row => exact ⟨hdp, hF.rows h⟩
  | halt x w' => cases x <;> simp only [Oper.upon, Oper.uponIn] at h ⊢ <;> exact h

/-- Another aim, where nothing panics and nothing runs out. -/
theorem wpIn_post {Q Q' : Exit → Act → World → Prop} {o : Oper} {K : Act → World → Prop} (h : o.wpIn F n P a w K Q) (hp : ∀ c a w, Q (.panic c) a w → Q' (.panic c) a w) (hl : ¬ LetsOut Q) : o.wpIn F n P a w K Q' := by
  refine ⟨h.1, ?_⟩
  have h2 := h.2
  generalize (o.semAt F.round a.eval).run P w = r at *
  cases r with
  | ok x w' =>
    cases x <;> simp only [Oper.uponIn] at h2 ⊢
    case value => exact h2
    case skip => exact h2
    case defer => exact h2
    case enter => exact ⟨h2.1, CallsIn.mono h2.2 fun e w'' he => by cases e <;> first | exact he | exact hp _ _ _ he | exact absurd he hl⟩
    case row => exact h2
    case round => exact ⟨h2.1, RoundIn.mono h2.2 fun e w'' he => by cases e <;> first | exact he | exact hp _ _ _ he | exact absurd he hl⟩
  | halt x w' => cases x <;> simp only [Oper.uponIn] at h2 ⊢ <;> exact hp _ _ _ h2

theorem wpListIn_of (hF : FOk F) (hL : ¬ LetsOut Q) : ∀ (l : List Oper) (a : Act) (w : World), (∀ o ∈ l, noDefO o = true) → wpList P ops Q l a w → wpListIn F n P ops Q l a w
  | [], a, w, _, h => h
  | o :: l, a, w, hd, h => by
    have ih := fun a w => wpListIn_of hF hL l a w (fun o ho => hd o (by simp [ho]))
    simp only [wpList] at h
    simp only [wpListIn]
    split
    · rename_i hw
      rw [if_pos hw] at h
      rcases h with h | ⟨_, h⟩
      · exact Oper.wpIn_mono ih (wp_wpIn hF (hd o (by simp)) h)
      · exact absurd h hL
    · rename_i hw
      rw [if_neg hw] at h
      exact ⟨fun f _ => hF.fn f, ih _ _ h⟩

theorem wpAnyIn_of (hF : FOk F) (hL : ¬ LetsOut Q) (hd : ∀ {i : Nat} (o : Oper), ops[i]? = some o → noDefO o = true) {md : Region.Mode} : ∀ (fuel : Nat) (listed : Array Bool) (a : Act) (w : World), wpAny P md ops Q fuel listed a w → wpAnyIn F n P md ops Q fuel listed a w
  | 0, _, _, _, h => h
  | fuel + 1, listed, a, w, h => by
    refine ⟨h.1, fun i hi => ?_⟩
    have h1 := h.2 i hi
    have ih := fun a w => wpAnyIn_of (md := md) hF hL hd fuel (listed.setIfInBounds i true) a w
    unfold wpOp at h1
    unfold wpOpIn
    split
    · rename_i ho
      rw [ho] at h1
      exact ih _ _ h1
    · rename_i o ho
      simp only [ho] at h1
      split
      · rename_i hw
        rw [if_pos hw] at h1
        rcases h1 with h1 | ⟨_, h1⟩
        · exact Oper.wpIn_mono ih (wp_wpIn hF (hd o ho) h1)
        · exact absurd h1 hL
      · rename_i hw
        rw [if_neg hw] at h1
        exact ⟨fun f _ => hF.fn f, ih _ _ h1⟩

theorem evC_wpIn (hF : FOk F) (hm : P.follows .mixedOrders = true) {D : List Nat} : ∀ (tc : TC) (c : Code) (env : Env) (a : Act) (w : World) (Q : Exit → Env → World → Prop) (Q' : Exit → Act → World → Prop), codeIn D N c = true → noDef c = true → ¬ LetsOut Q' → Agr env N a df →
    evC P N tc c env w Q → (∀ e env' a' w', Agr env' N a' df → Same D a a' → Q e env' w' → Q' e a' w') → c.wpIn F n P Q' a w := by
  intro tc
  induction tc generalizing D with
  | reg ts =>
    intro c env a w Q Q' hc hn hL hA h hK
    cases c <;> try (exact h.elim)
    rename_i id ops d
    cases d with
    | true => exact h.elim
    | false =>
      obtain ⟨h1, h2⟩ := codeIn_region hc
      exact wpIn_region_list (wpListIn_of hF hL _ _ _ (List.all_eq_true.1 hn) (evOps_wl (D := D) ts ops.toList env a w _ hA h1 h2 h fun env' a' w' hA' hS hq => hK _ _ _ _ hA' hS hq))
  | draw ms ex =>
    intro c env a w Q Q' hc hn hL hA h hK
    cases c <;> try (exact h.elim)
    rename_i id ops d
    cases d with
    | false => exact h.elim
    | true =>
      simp only [evC] at h
      cases hmv : movesOk ops ex ms with
      | false => rw [hmv] at h; exact h.elim
      | true =>
        rw [hmv] at h
        simp only [cond_true] at h
        simp only [movesOk, Bool.and_eq_true] at hmv
        obtain ⟨⟨hsel, hcnt⟩, hmv⟩ := hmv
        obtain ⟨h1, h2⟩ := codeIn_region hc
        have hL2 : ¬ LetsOut (fun e a w => e = .normal ∧ Q' .normal a w) := by rintro ⟨_, _, h, _⟩; cases h
        refine wpIn_mono (Q := fun e a w => e = .normal ∧ Q' .normal a w) ?_ (fun e a w ⟨he, hq⟩ => by subst he; exact hq)
        refine wpIn_region_any hm (wpAnyIn_of hF hL2 (fun o ho => List.all_eq_true.1 hn o (Array.mem_toList_iff.2 (Array.mem_of_getElem? ho))) _ _ _ _ (wpAny_of_T (S := fun _ => True) (T := fun i => !isIn ex i) _ _ _ _ ?_))
        exact evDraw_any (D := D) hsel (fun i o ho => h1 o (by simpa using Array.mem_of_getElem? ho)) (fun i o ho => h2 o (by simpa using Array.mem_of_getElem? ho)) (fun c a w hp => by simp at hp) ms _ _ true ops.size env a _ _ (Nat.le_of_ble_eq_true hcnt) hmv
          (Closed.start _ _ _) (fun _ => trivial) hA h fun env' a' w' hA' hS hq => ⟨rfl, hK _ _ _ _ hA' hS hq⟩
  | drawS ms ex =>
    intro c env a w Q Q' hc hn hL hA h hK
    cases c <;> try (exact h.elim)
    rename_i id ops d
    cases d with
    | false => exact h.elim
    | true =>
      simp only [evC] at h
      cases hmv : movesOk ops ex ms with
      | false => rw [hmv] at h; exact h.elim
      | true =>
        rw [hmv] at h
        simp only [cond_true] at h
        obtain ⟨S, hS0, h⟩ := h
        simp only [movesOk, Bool.and_eq_true] at hmv
        obtain ⟨⟨hsel, hcnt⟩, hmv⟩ := hmv
        obtain ⟨h1, h2⟩ := codeIn_region hc
        have hL2 : ¬ LetsOut (fun e a w => e = .normal ∧ Q' .normal a w) := by rintro ⟨_, _, h, _⟩; cases h
        refine wpIn_mono (Q := fun e a w => e = .normal ∧ Q' .normal a w) ?_ (fun e a w ⟨he, hq⟩ => by subst he; exact hq)
        refine wpIn_region_any hm (wpAnyIn_of hF hL2 (fun o ho => List.all_eq_true.1 hn o (Array.mem_toList_iff.2 (Array.mem_of_getElem? ho))) _ _ _ _ (wpAny_of_T (S := S) (T := fun i => !isIn ex i) _ _ _ _ ?_))
        exact evDraw_any (D := D) hsel (fun i o ho => h1 o (by simpa using Array.mem_of_getElem? ho)) (fun i o ho => h2 o (by simpa using Array.mem_of_getElem? ho)) (fun c a w hp => by simp at hp) ms _ _ true ops.size env a _ _ (Nat.le_of_ble_eq_true hcnt) hmv
          (Closed.start _ _ _) (fun _ => hS0) hA h fun env' a' w' hA' hS hq => ⟨rfl, hK _ _ _ _ hA' hS hq⟩
  | seq x y ihx ihy =>
    intro c env a w Q Q' hc hn hL hA h hK
    cases c <;> try (exact h.elim)
    rename_i cx cy
    simp only [codeIn, Bool.and_eq_true] at hc
    simp only [noDef, Bool.and_eq_true] at hn
    refine wpIn_seq (ihx cx env a w _ _ hc.1 hn.1 (fun hl => hL hl) hA h fun e env' a' w' hA' hS hq => ?_)
    cases e with
    | normal => exact ihy cy env' a' w' Q Q' hc.2 hn.2 hL hA' hq fun e2 env2 a2 w2 hA2 hS2 hq2 => hK e2 env2 a2 w2 hA2 (hS.trans hS2) hq2
    | _ => exact hK _ _ _ _ hA' hS hq
  | cond x y ihx ihy =>
    intro c env a w Q Q' hc hn hL hA h hK
    cases c <;> try (exact h.elim)
    rename_i o cx cy
    simp only [codeIn, Bool.and_eq_true] at hc
    simp only [noDef, Bool.and_eq_true] at hn
    simp only [evC] at h
    split at h
    · rename_i t ht
      exact wpIn_cond_split (hA.eval ht) (fun e => ihx cx env a w Q Q' hc.1 hn.1 hL hA (h.1 e) hK) (fun e => ihy cy env a w Q Q' hc.2 hn.2 hL hA (h.2 e) hK)
    · exact h.elim
  | ct x ihx =>
    intro c env a w Q Q' hc hn hL hA h hK
    cases c <;> try (exact h.elim)
    rename_i o cx cy
    simp only [codeIn, Bool.and_eq_true] at hc
    simp only [noDef, Bool.and_eq_true] at hn
    simp only [evC] at h
    split at h
    · rename_i ht
      exact wpIn_cond_true (hA.eval ht) (ihx cx env a w Q Q' hc.1 hn.1 hL hA h hK)
    · exact h.elim
  | cf y ihy =>
    intro c env a w Q Q' hc hn hL hA h hK
    cases c <;> try (exact h.elim)
    rename_i o cx cy
    simp only [codeIn, Bool.and_eq_true] at hc
    simp only [noDef, Bool.and_eq_true] at hn
    simp only [evC] at h
    split at h
    · rename_i ht
      exact wpIn_cond_false (hA.eval ht) (ihy cy env a w Q Q' hc.2 hn.2 hL hA h hK)
    · exact h.elim
  | blk x ihx =>
    intro c env a w Q Q' hc hn hL hA h hK
    cases c <;> try (exact h.elim)
    rename_i id cx
    simp only [codeIn] at hc
    refine wpIn_block (ihx cx env a w _ _ hc hn (fun hl => hL hl) hA h fun e env' a' w' hA' hS hq => ?_)
    cases e with
    | exit id' =>
      simp only [Exit.inBlock]
      simp only at hq
      cases hb : Nat.beq id' id with
      | true => rw [if_pos (Nat.eq_of_beq_eq_true hb)]; rw [hb] at hq; exact hK _ _ _ _ hA' hS hq
      | false =>
        have hne : id' ≠ id := fun e => by subst e; simp at hb
        rw [if_neg hne]; rw [hb] at hq; exact hK _ _ _ _ hA' hS hq
    | _ => exact hK _ _ _ _ hA' hS hq
  | loop asg live ks x ihx =>
    intro c env a w Q Q' hc hn hL hA h hK
    cases c <;> try (exact h.elim)
    rename_i cx
    simp only [evC] at h
    cases hb : (codeIn asg N cx && Nat.beq live.length ks.length) with
    | false => rw [hb] at h; exact h.elim
    | true =>
      rw [hb] at h
      simp only [cond_true] at h
      obtain ⟨I, μ, h0, hr⟩ := h
      simp only [Bool.and_eq_true] at hb
      have hlen : live.length = ks.length := Nat.eq_of_beq_eq_true hb.2
      simp only [codeIn] at hc
      obtain ⟨vs0, hvs0⟩ := alC_any (by rw [looks_length]; exact hlen) h0
      refine wpIn_loop (fun a' w' => ∃ vs : List Value, slots a' live = vs.map some ∧ Agr (sets live vs (forget asg env)) N a' df ∧ Agr (forget asg env) N a' df ∧ Same D a a' ∧ appC False ks I (vs.map some) w') (fun a' w' => appC 0 ks μ (slots a' live) w')
        ⟨vs0, slots_eq hA live vs0 hvs0, (hA.forget asg).sets live vs0 (by have := congrArg List.length hvs0; rw [looks_length] at this; simpa using this) (looks_at hA live vs0 hvs0), hA.forget asg, Same.refl _ _, by rw [← hvs0]; exact h0⟩ ?_
      rintro a1 w1 ⟨vs, hsl, hA1, hF1, hS1, hI⟩
      have hsll : ∀ l, (slots a1 l).length = l.length := by intro l; induction l <;> simp_all [slots]
      have hvl : (vs.map some).length = ks.length := by rw [← hsl, hsll]; exact hlen
      obtain ⟨vs', he, hbody⟩ := alC_app hvl hI hr
      have hvv : vs = vs' := by
        have := congrArg (List.filterMap id) he
        simpa using this
      subst hvv
      refine ihx (D := asg.filter (isIn D)) cx _ a1 w1 _ _ (codeIn_inter hb.1 hc) hn (fun hl => hL hl) hA1 (hbody w1 hI) fun e env' a' w' hA' hS' hq => ?_
      have hSa : Same asg a1 a' := fun s hs => hS' s fun hm => hs (List.mem_filter.1 hm).1
      have hSD : Same D a1 a' := fun s hs => hS' s fun hm => hs (isIn_spec (List.mem_filter.1 hm).2)
      cases e with
      | normal =>
        obtain ⟨hI', hlt⟩ := hq
        obtain ⟨vs', hvs'⟩ := alC_any (by rw [looks_length]; exact hlen) hI'
        have hF' : Agr (forget asg env) N a' df := ⟨hA'.defers, hA'.size, fun s v hs => by rw [hSa s (look_forget hs).2]; exact hF1.at_ s v hs⟩
        refine ⟨⟨vs', slots_eq hA' live vs' hvs', hF'.sets live vs' (by have := congrArg List.length hvs'; rw [looks_length] at this; simpa using this) (looks_at hA' live vs' hvs'), hF', hS1.trans hSD, by rw [← hvs']; exact hI'⟩, ?_⟩
        rw [slots_eq hA' live vs' hvs', hsl, ← hvs']
        exact hlt
      | _ => exact hK _ _ _ _ hA' (hS1.trans hSD) hq
  | join asg live ks x ihx =>
    intro c env a w Q Q' hc hn hL hA h hK
    simp only [evC] at h
    cases hb : (codeIn asg N c && Nat.beq live.length ks.length) with
    | false => rw [hb] at h; exact h.elim
    | true =>
      rw [hb] at h
      simp only [cond_true] at h
      obtain ⟨J, h1, h2⟩ := h
      simp only [Bool.and_eq_true] at hb
      have hlen : live.length = ks.length := Nat.eq_of_beq_eq_true hb.2
      refine ihx (D := asg.filter (isIn D)) c env a w _ _ (codeIn_inter hb.1 hc) hn (fun hl => hL (by simpa [LetsOut] using hl)) hA h1 fun e env' a' w' hA' hS' hq => ?_
      have hSa : Same asg a a' := fun s hs => hS' s fun hm => hs (List.mem_filter.1 hm).1
      have hSD : Same D a a' := fun s hs => hS' s fun hm => hs (isIn_spec (List.mem_filter.1 hm).2)
      cases e with
      | normal =>
        obtain ⟨vs, hvs, hk⟩ := alC_app (by rw [looks_length]; exact hlen) hq h2
        have hF' : Agr (forget asg env) N a' df := ⟨hA'.defers, hA'.size, fun s v hs => by rw [hSa s (look_forget hs).2]; exact hA.at_ s v (look_forget hs).1⟩
        refine hK _ _ _ _ (hF'.sets live vs (by have := congrArg List.length hvs; rw [looks_length] at this; simpa using this) (looks_at hA' live vs hvs)) hSD (hk w' (by rw [← hvs]; exact hq))
      | _ => exact hK _ _ _ _ hA' hSD hq
  | leaf =>
    intro c env a w Q Q' hc hn hL hA h hK
    cases c <;> try (exact h.elim)
    · exact wpIn_skip (hK _ _ _ _ hA (Same.refl _ _) h)
    · exact wpIn_exit (hK _ _ _ _ hA (Same.refl _ _) h)
    · exact wpIn_label (hK _ _ _ _ hA (Same.refl _ _) h)
    · exact wpIn_ret (hK _ _ _ _ hA (Same.refl _ _) h)


end
end Go.Proofs.YtefnlbgkfingfaaDoor.Sx
