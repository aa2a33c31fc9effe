/- Contracts of sha: write (conditions: those that each theorem names). -/
import Derived.Test.YtefnlbgkfingfaaDoorShaA
namespace Go.Proofs.YtefnlbgkfingfaaDoor
open Go Sx
set_option maxRecDepth 8000

/-- The cells of a state. -/
def hsL (h : List Nat) (a : Option Addr) (k c : Nat) (n : Int) : List Value := kv .u32 h ++ [.slice a k c, .int .i64 n]
theorem hsL_len {h : List Nat} (hl : h.length = 8) (a : Option Addr) (k c : Nat) (n : Int) : (hsL h a k c n).length = 10 := by simp [hsL, hl]
theorem hsL_8 {h : List Nat} (hl : h.length = 8) (a : Option Addr) (k c : Nat) (n : Int) : (hsL h a k c n)[8]? = some (.slice a k c) := by rw [hsL, List.getElem?_append_right (by simp [hl])]; simp [hl]
theorem hsL_9 {h : List Nat} (hl : h.length = 8) (a : Option Addr) (k c : Nat) (n : Int) : (hsL h a k c n)[9]? = some (.int .i64 n) := by rw [hsL, List.getElem?_append_right (by simp [hl])]; simp [hl]
theorem hsL_set8 {h : List Nat} (hl : h.length = 8) (a a' : Option Addr) (k c k' c' : Nat) (n : Int) : (hsL h a k c n).set 8 (.slice a' k' c') = hsL h a' k' c' n := by rw [hsL, List.set_append_right _ _ (by simp [hl])]; simp [hl, hsL]
theorem hsL_set9 {h : List Nat} (hl : h.length = 8) (a : Option Addr) (k c : Nat) (n n' : Int) : (hsL h a k c n).set 9 (.int .i64 n') = hsL h a k c n' := by rw [hsL, List.set_append_right _ _ (by simp [hl])]; simp [hl, hsL]

/-- A row that is cut short. -/
theorem Sx.St.shrink {w0 w : World} {X : List Nat} {M : List Res} (h : St w0 X w M) {i e : Nat} {a : Option Addr} {n c : Nat} {xs : List Value} (hi : M[i]? = some (.row e 1 (.slice a n c) n xs)) {k : Nat} (hk : k ≤ n) : St w0 X w (M.set i (.row e 1 (.slice a k c) k (xs.take k))) := by
  have hown : w.ownsRow 0 e 1 (.slice a n c) n xs := h.holds i _ hi
  refine h.upd hi (Chg.refl _ _) (r' := .row e 1 (.slice a k c) k (xs.take k)) ?_ (fun b hb => .inl ?_)
  · obtain ⟨h1, h2⟩ := hown
    refine ⟨by rw [List.length_take, h1]; omega, ?_⟩
    rcases h2 with ⟨hv, h0⟩ | ⟨g, cap, cur, hv, hb, hg, hle, hm, hs, ht⟩
    · simp only [Value.slice.injEq] at hv
      obtain ⟨rfl, rfl, rfl⟩ := hv
      exact .inl ⟨by simp; omega, by omega⟩
    · simp only [Value.slice.injEq] at hv
      obtain ⟨rfl, _, rfl⟩ := hv
      refine .inr ⟨g, c, cur, rfl, hb, hg, by omega, hm, hs, ?_⟩
      rw [← ht, List.take_take, Nat.mul_one, Nat.mul_one, Nat.min_eq_left hk]
  · cases a with
    | none => simp [Res.fp, Value.ownBlock] at hb
    | some _ => simpa [Res.fp, Value.ownBlock] using hb

/-- Readable under whatever changes of some blocks. -/
def RdK (F : List Nat) (w : World) (a : Option Addr) (n c : Nat) (l : List UInt8) : Prop := ∀ w', Chg F w w' → RdB w' a n c l

theorem RdK.sub {F : List Nat} {w : World} {a a' : Option Addr} {n c k : Nat} {l : List UInt8} (h : RdK F w a n c l) (hs : SubA 1 a k c a') (hk : k ≤ n) (hn : n ≤ c) (hl : l.length = n) : RdK F w a' (n - k) (c - k) (l.drop k) := fun w' hc => by
  have := (h w' hc).sub hs (hh := n) hk (Nat.le_refl _) hn (Nat.le_refl _)
  have e1 : ((bv l).drop (k * 1)).take ((n - k) * 1) = bv (l.drop k) := by
    rw [Nat.mul_one, Nat.mul_one, List.take_of_length_le (by simp; omega), bv_drop]
  rw [e1] at this
  exact this

theorem rdK_old {w0 w : World} {N : List Res} (h : St w0 [] w N) {a : Option Addr} {n c : Nat} {l : List UInt8} (hr : RdB w0 a n c l) : RdK (fpsL N) w a n c l := fun _ hc =>
  hr.keep0 (h.chg.trans' hc fun k hk => .inl (h.fps_own k hk))
theorem rdK_row {w0 w : World} {X : List Nat} {M N : List Res} (h : St w0 X w (M ++ N)) {a : Option Addr} {n c : Nat} {l : List UInt8} (hr : Res.row 5 1 (.slice a n c) n (bv l) ∈ M) : RdK (fpsL N) w a n c l := fun _ hc =>
  ownsRow_rd (h.keptPart hr hc)
theorem rdK_arr {w0 w : World} {X : List Nat} {M N : List Res} (h : St w0 X w (M ++ N)) {g T n : Nat} {l : List UInt8} (hr : Res.arr g T (bv l) ∈ M) (hl : l.length = n) : RdK (fpsL N) w (some ⟨g, 0, none⟩) n n l := fun _ hc => by
  have hh : Res.holds _ (Res.arr g T (bv l)) := h.keptPart hr hc
  exact (St.ofBlk (o := .cells (bv l).toArray T) hh).rdA (i := 0) rfl (by simpa using hl)

/-- A state that has taken a message, in memory. -/
def hM (g T : Nat) (m : List UInt8) (a : Option Addr) (c : Nat) : List Res := [.arr g T (hsL (hOf m) a (rOf m).length c (m.length : Int)), .row 5 1 (.slice a (rOf m).length c) (rOf m).length (bv (rOf m))]

theorem write_spec (F : List Nat) (g T : Nat) (m : List UInt8) (a : Option Addr) (c : Nat) (a1 : Option Addr) (n1 c1 : Nat) (l : List UInt8) (w : World) (hK : KTab w) (hF : 0 ∉ F) (hS : St w F w (hM g T m a c)) (hr : RdK F w a1 n1 c1 l) (hb : m.length + l.length ≤ 140737488350000) :
    Calls Tryd.prog 62 #[.pointer (some ⟨g, 0, none⟩), .slice a1 n1 c1] w fun e w' => e = .returned (.tuple #[]) ∧ ∃ a' c', St w F w' (hM g T (m ++ l) a' c') := by
  have hrd := hr w (Chg.refl _ _)
  have hl := hrd.lenB
  have hle := hrd.le
  have iI : ∀ w, (isAgg 3).run Tryd.prog w = .ok false w := fun w => Tryd.isAgg3 w
  have sI : ∀ w, (sizeOf 3).run Tryd.prog w = .ok 1 w := fun w => Tryd.sizeOf3 w
  have sS : ∀ w, (sizeOf 23).run Tryd.prog w = .ok 1 w := fun w => Tryd.sizeOf23 w
  have hhl := hOf_len m
  have hrl := rOf_len m
  obtain ⟨k, hk⟩ : ∃ k, (rOf m).length = k := ⟨_, rfl⟩
  rw [hM, hk] at hS
  rw [hk] at hrl
  -- taking a block
  have blk : ∀ (wx : World) (h : List Nat) (a' : Option Addr) (k' c' : Nat) (n' : Int) (R' : Res) (ab : Option Addr) (cb : Nat) (lb : List UInt8) (K : Ending → World → Prop), St w F wx [.arr g T (hsL h a' k' c' n'), R'] → h.length = 8 → Lt32 h → RdB wx ab 64 cb lb →
      (∀ wy, Chg [g] wx wy → St w F wy [.arr g T (hsL (compress h lb) a' k' c' n'), R'] → K (.returned (.tuple #[])) wy) → Calls Tryd.prog 64 #[.pointer (some ⟨g, 0, none⟩), .slice ab 64 cb] wx K := by
    intro wx h a' k' c' n' R' ab cb lb K hSx hh hlt hrb hK'
    refine (shaBlock_spec g T h _ ab 64 cb lb wx (hK.keep hSx.chg hF) (hSx.holds 0 _ rfl) hh hlt hrb rfl).mono ?_
    rintro e wy ⟨rfl, hc, hg⟩
    exact hK' wy hc (hSx.upd (i := 0) (r' := .arr g T (hsL (compress h lb) a' k' c' n')) rfl hc hg (by simp [Res.fp]))
  apply sha_state_write_vc
  obtain ⟨w1, r1, h1⟩ := hS.stL (i := 0) (o := 9) (v := .int .i64 ((m.length + n1 : Nat) : Int)) rfl (sI _) rfl (by rw [hsL_len hhl]; omega) rfl
  rw [hsL_set9 hhl] at h1
  have hw : IntKind.wrap .i64 ((m.length : Int) + (n1 : Int)) = ((m.length + n1 : Nat) : Int) := by rw [wrap_i64 (by omega) (by omega)]; omega
  refine ⟨_, hS.ldL (i := 0) (o := 9) rfl (iI _) rfl (hsL_9 hhl _ _ _ _), ?_⟩
  rw [hw]
  refine ⟨w1, r1, _, _, _, h1.ldL (i := 0) (o := 8) rfl (bsA _) rfl (hsL_8 hhl _ _ _ _),
    fun xa xn xc w' => ∃ (m1 l1 : List UInt8) (a' : Option Addr) (c' : Nat), m ++ l = m1 ++ l1 ∧ m1.length % 64 = 0 ∧ l1.length = xn ∧ xn ≤ xc ∧ RdK F w xa xn xc l1 ∧ St w F w' [.arr g T (hsL (hOf m1) a' 0 c' ((m.length + n1 : Nat) : Int)), .row 5 1 (.slice a' 0 c') 0 []], ⟨fun h => ?_, fun h => ?_⟩, ?_⟩
  · have hk0 : 0 < k := by simp at h; omega
    clear h
    obtain ⟨t, ht⟩ : ∃ t : Nat, t = min n1 (64 - k) := ⟨_, rfl⟩
    have e : (if (n1 : Int) < IntKind.wrap .i64 (64 - (k : Int)) then (n1 : Int) else IntKind.wrap .i64 (64 - (k : Int))) = (t : Int) := by
      rw [wrap_i64 (by omega) (by omega)]
      split <;> omega
    have h1d := h1.drew
    have hrt : RdB w1.drew a1 t c1 (l.take t) := rdB_upto (hr _ h1d.chg) (by omega)
    obtain ⟨va, vc, w2, r2, h2⟩ := h1d.appendB (i := 1) rfl hrt (by omega)
    obtain ⟨w3, r3, h3⟩ := h2.stL (i := 0) (o := 8) (v := .slice va (k + t) vc) rfl (sS _) rfl (by rw [hsL_len hhl]; omega) rfl
    rw [hsL_set8 hhl] at h3
    have h3' : St w F w3 [.arr g T (hsL (hOf m) va (k + t) vc ((m.length + n1 : Nat) : Int)), .row 5 1 (.slice va (k + t) vc) (k + t) (bv (rOf m ++ l.take t))] := h3
    have ld3 := h3'.ldL (P := Tryd.prog) (T := 23) (i := 0) (o := 8) rfl (bsA _) rfl (hsL_8 hhl _ _ _ _)
    refine ⟨_, _, _, h1.ldL (i := 0) (o := 8) rfl (bsA _) rfl (hsL_8 hhl _ _ _ _), ?_⟩
    rw [e]
    simp only [Int.toNat_natCast]
    refine ⟨fun w' => ∃ R' : Res, St w F w' [.arr g T (hsL (hOf m) a k c ((m.length + n1 : Nat) : Int)), R'], ⟨_, h1d⟩, by omega, by omega, _, _, _, fun w' ⟨_, h⟩ => h.ldL (i := 0) (o := 8) rfl (bsA _) rfl (hsL_8 hhl _ _ _ _), va, k + t, vc, w2, r2, fun w' => ∃ R' : Res, St w F w' [.arr g T (hsL (hOf m) a k c ((m.length + n1 : Nat) : Int)), R'], fun _ h => h, ⟨_, h2⟩, w3, r3, by omega, by omega, by omega, fun a2 hs2 => ?_⟩
    refine ⟨_, _, _, ld3, fun h => ?_, fun h => ?_⟩
    · have hlt : k + t < 64 := by simp at h; omega
      have htn : t = n1 := by omega
      have htk : l.take t = l := List.take_of_length_le (by omega)
      obtain ⟨f1, f2⟩ := hOf_few (m := m) (b := l) (by omega)
      refine ⟨trivial, va, vc, ?_⟩
      rw [htk, htn] at h3'
      rw [hM, f1, f2, List.length_append, hk, hl, List.length_append, hl]
      exact h3'
    · have hge : k + t = 64 := by simp at h; omega
      have hlt' : (l.take t).length = t := by rw [List.length_take]; omega
      obtain ⟨f1, f2⟩ := hOf_fill (m := m) (b := l.take t) (by omega)
      rw [hge] at h3' ld3
      refine ⟨_, _, _, ld3, blk w3 (hOf m) _ _ _ _ _ _ _ _ _ h3' hhl (hOf_lt m) (h3'.rd (i := 1) rfl) fun w4 _ h4 => ⟨rfl, ?_⟩⟩
      rw [← f1] at h4
      have hhl2 := hOf_len (m ++ l.take t)
      obtain ⟨w5, r5, h5⟩ := h4.stL (i := 0) (o := 8) (v := .slice va 0 vc) rfl (sS _) rfl (by rw [hsL_len hhl2]; omega) rfl
      rw [hsL_set8 hhl2] at h5
      have h5' := h5.shrink (i := 1) rfl (k := 0) (by omega)
      refine ⟨_, _, _, h4.ldL (i := 0) (o := 8) rfl (bsA _) rfl (hsL_8 hhl2 _ _ _ _), by omega, by omega, w5, r5, m ++ l.take t, l.drop t, va, vc, by rw [List.append_assoc, List.take_append_drop], ?_, by simp; omega, by omega, hr.sub hs2 (by omega) hle hl, h5'⟩
      rw [List.length_append, hlt']; omega
  · have hk0 : k = 0 := by simp at h; omega
    subst hk0
    have hr0 : rOf m = [] := List.eq_nil_of_length_eq_zero hk
    rw [hr0] at h1
    exact ⟨m, l, a, c, rfl, by omega, hl, hle, hr, h1⟩
  rintro xa xn xc w6 ⟨m1, l1, a6, c6, he6, hm6, hl6, hx6, hr6, h6⟩
  refine ⟨fun xa xn xc w' => ∃ (m1 l1 : List UInt8) (a' : Option Addr) (c' : Nat), m ++ l = m1 ++ l1 ∧ m1.length % 64 = 0 ∧ l1.length = xn ∧ xn ≤ xc ∧ RdK F w xa xn xc l1 ∧ St w F w' [.arr g T (hsL (hOf m1) a' 0 c' ((m.length + n1 : Nat) : Int)), .row 5 1 (.slice a' 0 c') 0 []], fun _ xn _ _ => xn, ⟨m1, l1, a6, c6, he6, hm6, hl6, hx6, hr6, h6⟩, ?_⟩
  clear h6 hr6 hx6 hl6 hm6 he6 a6 c6 m1 l1
  rintro xa xn xc w7 ⟨m1, l1, a', c', he, hm, hl1, hx, hr7, h7⟩
  have hm1r : rOf m1 = [] := List.eq_nil_of_length_eq_zero (by rw [rOf_len]; exact hm)
  refine ⟨fun h => ?_, fun h => ?_⟩
  · have h64 : 64 ≤ xn := by simp at h; omega
    have hlt' : (l1.take 64).length = 64 := by rw [List.length_take]; omega
    obtain ⟨f1, f2⟩ := hOf_fill (m := m1) (b := l1.take 64) (by omega)
    rw [hm1r, List.nil_append] at f1
    refine ⟨by omega, by omega, blk w7 (hOf m1) _ _ _ _ _ _ _ _ _ h7 (hOf_len m1) (hOf_lt m1) (rdB_upto (hr7 w7 h7.chg) (k := 64) h64) fun w8 hc8 h8 => ⟨rfl, by omega, by omega, by omega, fun a9 hs9 => ⟨⟨m1 ++ l1.take 64, l1.drop 64, a', c', by rw [he, List.append_assoc, List.take_append_drop], by rw [List.length_append, hlt']; omega, by simp; omega, by omega, hr7.sub hs9 h64 hx hl1, ?_⟩, ?_⟩⟩⟩
    · rw [f1]; exact h8
    · show xn - 64 < xn
      omega
  · have h64 : xn < 64 := by simp at h; omega
    obtain ⟨f1, f2⟩ := hOf_few (m := m1) (b := l1) (by omega)
    rw [hm1r, List.nil_append] at f2
    have hhl2 := hOf_len m1
    have hlen : (m ++ l).length = m.length + n1 := by rw [List.length_append, hl]
    obtain ⟨va, vc, w9, r9, h9⟩ := h7.appendB (i := 1) (xs := []) rfl (hr7 w7 h7.chg) (by omega)
    simp only [Nat.zero_add, List.nil_append] at r9 h9
    obtain ⟨w10, r10, h10⟩ := h9.stL (i := 0) (o := 8) (v := .slice va xn vc) rfl (sS _) rfl (by rw [hsL_len hhl2]; omega) rfl
    rw [hsL_set8 hhl2] at h10
    refine ⟨_, _, _, h7.ldL (i := 0) (o := 8) rfl (bsA _) rfl (hsL_8 hhl2 _ _ _ _), _, _, _, _, r9, w10, r10, rfl, va, vc, ?_⟩
    rw [hM, hlen, he, f1, f2, hl1]
    exact h10

end Go.Proofs.YtefnlbgkfingfaaDoor
