/- append, told so that the old row stays known where a new one is laid (conditions: none; any program). -/
import Derived.Test.YtdcgapabphjgbaaSxArr
namespace Go.Proofs.Ytdcgapabphjgbaa.Sx
open Go
set_option maxRecDepth 8000

section
variable {P : Program} {w0 w : World} {X : List Nat} {M : List Res}

theorem St.append2 (h : St w0 X w M) {i : Nat} {t ty e sz by_ : Nat} {z : Value} {va a : Option Addr} {n vc m c : Nat} {xs news : List Value} (E : ElemT P t e sz by_ z)
    (hi : M[i]? = some (.row e sz (.slice va n vc) n xs)) (hs' : Rd w a m c sz news) (h1 : ∀ u ∈ news, u.oneCell' = true) (hb : (n + m) * by_ ≤ 140737488355328) (hm : n + m ≤ maxLen) :
    ∃ va' vc' w', (Builtin.append_ #[t, t] ty #[.slice va n vc, .slice a m c]).run P w = .ok (.slice va' (n + m) vc') w' ∧
      ((va' = va ∧ St w0 X w' (M.set i (.row e sz (.slice va' (n + m) vc') (n + m) (xs ++ news)))) ∨ St w0 X w' (M ++ [.row e sz (.slice va' (n + m) vc') (n + m) (xs ++ news)])) := by
  by_cases hroom : n + m ≤ vc
  · obtain ⟨va', vc', w', hr, h', hin, _⟩ := h.append (ty := ty) E hi hs' h1 hb hm
    exact ⟨va', vc', w', hr, .inl ⟨(hin hroom).1, h'⟩⟩
  · have hs := hs'.cells
    have hl := hs'.len
    have ha : a = none → c = 0 ∧ m = 0 := fun e => ⟨hs'.nil e, by have := hs'.nil e; have := hs'.le; omega⟩
    obtain ⟨inf, hinf, hz, hsz, hby⟩ := E.inf
    have hown : w.ownsRow 0 e sz (.slice va n vc) n xs := h.holds i _ hi
    have hn : n ≤ vc := by
      rcases hown.2 with ⟨hv, rfl⟩ | ⟨g, cap, cur, hv, _, _, hnc, _⟩
      · omega
      · simp only [Value.slice.injEq] at hv; omega
    cases a with
    | none => obtain ⟨_, rfl⟩ := ha rfl; omega
    | some ad =>
      have hnews : ∀ j u, news[j]? = some u → w.cell? (ad.add j) = some u := by
        intro j u hu
        obtain ⟨b, o, he, hc⟩ := hs.at_ hu
        simp only [Option.some.injEq] at he
        subst he
        rw [Addr.add_mid]
        exact hc
      have hlen : (xs ++ news).length = (n + m) * sz := by rw [List.length_append, hown.1, hl, Nat.add_mul]
      -- the new row
      have fresh : ∀ old : Nat, old < n + m → St w0 X (w.drew.alloc (.cells (xs.toArray ++ news.toArray ++ Builtin.zeroCells z.cells (grownCap w (n + m) old e - (n + m))) e))
          (M ++ [.row e sz (.slice (some ⟨w.heap.size, 0, none⟩) (n + m) (grownCap w (n + m) old e)) (n + m) (xs ++ news)]) := by
        intro old ho
        have hge := grownCap_ge w (n + m) old e
        have hcm := grownCap_le_maxLen w (n + m) old e hm
        refine h.add ((Chg.drew [] w).trans (Chg.alloc _ _)) ⟨hlen, .inr ⟨w.heap.size, _, _, rfl, Nat.zero_le _, heap_alloc_new w.drew _, hge, hcm, ?_, ?_⟩⟩ (by simp [Res.fp, Value.ownBlock])
        · have e1 : xs.length + news.length = (n + m) * sz := by rw [← List.length_append]; exact hlen
          have e2 : grownCap w (n + m) old e * sz = (n + m) * sz + (grownCap w (n + m) old e - (n + m)) * sz := by rw [← Nat.add_mul]; congr 1; omega
          simp only [Array.size_append, List.size_toArray, size_zeroCells, E.zs]
          omega
        · simp only [Array.toList_append]
          exact List.take_left' hlen
      rcases hown.2 with ⟨hv, hn0⟩ | ⟨g, cap, cur, hv, _, hg, hnc, hcm, hcs, htake⟩
      · simp only [Value.slice.injEq] at hv
        obtain ⟨rfl, _, rfl⟩ := hv
        subst hn0
        have hx : xs = [] := List.eq_nil_of_length_eq_zero (by simpa using hown.1)
        subst hx
        have hr := run_append_nil (P := P) w t ty e inf z E.ht hinf hz ad m c news (by rw [hsz]; exact hl) hnews (by omega) (by simp only [maxLen] at hm; omega) (by rw [hby]; simp only [Nat.zero_add] at hb; omega)
        have hf := fresh 0 (by omega)
        simp only [Nat.zero_add, List.nil_append, Array.empty_append] at hf hr ⊢
        exact ⟨_, _, _, hr, .inr hf⟩
      · simp only [Value.slice.injEq] at hv
        obtain ⟨rfl, _, rfl⟩ := hv
        have holds : ∀ j u, xs[j]? = some u → w.cell? ((⟨g, 0, none⟩ : Addr).add j) = some u := hown.cells (g := g) rfl
        have hr := run_append_grow (P := P) w t ty e inf z E.ht hinf hz ⟨g, 0, none⟩ n vc xs (by rw [hsz]; exact hown.1) holds ad m c news (by rw [hsz]; exact hl) hnews (by omega) (by simp only [maxLen] at hm; omega) (growslice_fits (by omega) (by rw [hby]; exact hb))
        exact ⟨_, _, _, hr, .inr (fresh vc (by omega))⟩

/-- A thing that is held besides the others. -/
theorem St.addAt (h : St w0 X w M) {s : Res} (hs : s.holds w) (hlo : ∀ k ∈ s.fp, w0.heap.size ≤ k ∨ k ∈ X) (hap : ∀ (i : Nat) (r : Res), M[i]? = some r → ∀ k ∈ r.fp, k ∉ s.fp) : St w0 X w (M ++ [s]) := by
  have get : ∀ (j : Nat) (r : Res), (M ++ [s])[j]? = some r → (j < M.length ∧ M[j]? = some r) ∨ (j = M.length ∧ r = s) := by
    intro j r hj
    by_cases hlt : j < M.length
    · rw [List.getElem?_append_left hlt] at hj; exact .inl ⟨hlt, hj⟩
    · rw [List.getElem?_append_right (by omega)] at hj
      have := (List.getElem?_eq_some_iff.1 hj).1
      simp only [List.length_cons, List.length_nil] at this
      have e : j - M.length = 0 := by omega
      rw [e] at hj
      exact .inr ⟨by omega, (Option.some.inj hj).symm⟩
  refine ⟨h.chg, fun j r hj => ?_, fun j r hj k hk => ?_, fun j l r t hjl hj hl k hk hk' => ?_⟩
  · rcases get j r hj with ⟨_, h1⟩ | ⟨_, rfl⟩
    · exact h.holds j r h1
    · exact hs
  · rcases get j r hj with ⟨_, h1⟩ | ⟨_, rfl⟩
    · exact h.own j r h1 k hk
    · exact hlo k hk
  · rcases get j r hj with ⟨_, h1⟩ | ⟨e1, rfl⟩ <;> rcases get l t hl with ⟨_, h2⟩ | ⟨e2, rfl⟩
    · exact h.apart j l r t hjl h1 h2 k hk hk'
    · exact hap j r h1 k hk hk'
    · exact hap l t h2 k hk' hk
    · omega

/-- Some of the things, for a call that may change them all. -/
theorem St.part (h : St w0 X w M) (js : List Nat) (N : List Res) (F : List Nat) (hN : ∀ (i : Nat) (r : Res), N[i]? = some r → ∃ j, js[i]? = some j ∧ M[j]? = some r) (hinj : ∀ (i l j : Nat), js[i]? = some j → js[l]? = some j → i = l)
    (hF : ∀ (i : Nat) (r : Res), N[i]? = some r → ∀ k ∈ r.fp, k ∈ F) : St w F w N := by
  refine ⟨Chg.refl _ _, fun i r hi => ?_, fun i r hi k hk => .inr (hF i r hi k hk), fun i l r t hil hi hl k hk hk' => ?_⟩
  · obtain ⟨j, _, hj⟩ := hN i r hi
    exact h.holds j r hj
  · obtain ⟨j, h1, hj⟩ := hN i r hi
    obtain ⟨j', h2, hj'⟩ := hN l t hl
    refine h.apart j j' r t (fun e => hil ?_) hj hj' k hk hk'
    subst e
    exact hinj i l j h1 h2

end
end Go.Proofs.Ytdcgapabphjgbaa.Sx
