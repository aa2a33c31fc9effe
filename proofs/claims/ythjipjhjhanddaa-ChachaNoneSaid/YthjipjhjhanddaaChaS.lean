/- Contracts of chacha's Stream (conditions: those that each theorem names). -/
import Derived.Test.YthjipjhjhanddaaChaE
import Derived.Test.YthjipjhjhanddaaLists
namespace Go.Proofs.Ythjipjhjhanddaa
open Go Sx

/-- The cells of a Stream. -/
def streamL (key nonce : List UInt8) (p : Nat) : List Value := bv key ++ bv nonce ++ [.int .i64 (p : Int)]

theorem streamL_len {key nonce : List UInt8} (hk : key.length = 32) (hn : nonce.length = 12) (p : Nat) : (streamL key nonce p).length = 45 := by simp [streamL, hk, hn]
theorem streamL_at {key nonce : List UInt8} (hk : key.length = 32) (hn : nonce.length = 12) (p : Nat) : (streamL key nonce p)[44]? = some (.int .i64 (p : Int)) := by
  rw [streamL, List.getElem?_append_right (by simp [hk, hn])]; simp [hk, hn]
theorem streamL_set {key nonce : List UInt8} (hk : key.length = 32) (hn : nonce.length = 12) (p q : Nat) : (streamL key nonce p).set 44 (.int .i64 (q : Int)) = streamL key nonce q := by
  rw [streamL, List.set_append_right _ _ (by simp [hk, hn])]; simp [streamL, hk, hn]

/-- Two blocks of memory: one that is new. -/
structure NewA (w w' : World) (g T : Nat) (l : List Value) : Prop where
  chg : Chg [] w w'
  new : w.heap.size ≤ g
  blk : w'.heap[g]? = some (.cells l.toArray T)

theorem NewA.add {w0 w w' : World} {X : List Nat} {M : List Res} {g T : Nat} {l : List Value} (h : NewA w w' g T l) (hS : St w0 X w M) : St w0 X w' (M ++ [.arr g T l]) :=
  hS.add h.chg h.blk fun k hk => by simp [Res.fp] at hk; rw [hk]; exact h.new

theorem built_stream : Try.prog.built 70 = fun parts => Instr.fill (fun i => (#[(0, 44), (44, 1)] : Array (Nat × Nat))[i]?) (bv (List.replicate 44 0) ++ [Value.int .i64 0]).toArray parts := by kernel_rfl

theorem stream_build (key nonce : List UInt8) (hk : key.length = 32) (hn : nonce.length = 12) (w : World) : (Instr.build 70 #[(0, .agg (bv key ++ bv nonce).toArray)]).run Try.prog w = .ok (.agg (streamL key nonce 0).toArray) w := by
  apply run_build
  rw [built_stream]
  show Instr.fill _ _ [(0, .agg (bv key ++ bv nonce).toArray)] = _
  rw [fill_step (off := 0) (sz := 44) rfl (by simp [Value.cells, hk, hn]) (by simp)]
  simp [Instr.fill, Value.cells, streamL]

theorem new_spec (key nonce : List UInt8) (w : World) (hk : key.length = 32) (hn : nonce.length = 12) :
    Calls Try.prog 17 #[.agg (bv key).toArray, .agg (bv nonce).toArray] w fun e w' => ∃ g, e = .returned (.pointer (some ⟨g, 0, none⟩)) ∧ NewA w w' g 70 (streamL key nonce 0) := by
  apply chacha_New_vc
  have s32 : ∀ w, (sizeOf 22).run Try.prog w = .ok 32 w := fun w => Try.sizeOf22 w
  have s12 : ∀ w, (sizeOf 24).run Try.prog w = .ok 12 w := fun w => Try.sizeOf24 w
  obtain ⟨g1, w1, r1, k1⟩ := (St.start w).boxA (P := Try.prog) 22 (bv key)
  obtain ⟨g2, w2, r2, k2⟩ := k1.boxA (P := Try.prog) 24 (bv nonce)
  obtain ⟨g3, w3, r3, k3⟩ := k2.boxA (P := Try.prog) 70 (streamL key nonce 0)
  refine ⟨_, _, r1, _, _, r2, _, k2.ldA (i := 0) rfl (e32 _) (s32 _) (by simp [hk]), _, k2.ldA (i := 1) rfl (e12 _) (s12 _) (by simp [hn]), _, seat_build key nonce hk hn _, _, stream_build key nonce hk hn _, _, _, r3, _, rfl, k3.chg, ?_, k3.holds 2 _ rfl⟩
  have := k3.own 2 _ rfl g3 (by simp [Res.fp])
  simpa using this

theorem at_spec (g T : Nat) (key nonce : List UInt8) (p : Nat) (w : World) (hk : key.length = 32) (hn : nonce.length = 12) (hg : w.heap[g]? = some (.cells (streamL key nonce p).toArray T)) :
    Calls Try.prog 19 #[.pointer (some ⟨g, 0, none⟩)] w fun e w' => e = .returned (.int .i64 (p : Int)) ∧ w' = w := by
  apply chacha_Stream_At_vc
  exact ⟨_, (St.ofBlk hg).ldL (i := 0) rfl (Try.isAgg3 _) rfl (streamL_at hk hn p), rfl, rfl⟩

theorem seek_spec (g T : Nat) (key nonce : List UInt8) (p : Nat) (x : Int) (w : World) (hk : key.length = 32) (hn : nonce.length = 12) (hg : w.heap[g]? = some (.cells (streamL key nonce p).toArray T)) (h1 : -9223372036854775808 ≤ x) (h2 : x ≤ 9223372036854775807) :
    Calls Try.prog 18 #[.pointer (some ⟨g, 0, none⟩), .int .i64 x] w fun e w' => e = .returned (errV (xorE x 0)) ∧ Chg [g] w w' ∧ w'.heap[g]? = some (.cells (streamL key nonce (if roomF x 0 then x.toNat else p)).toArray T) := by
  apply chacha_Stream_Seek_vc
  refine (room_spec x 0 w h1 h2 (by decide)).mono ?_
  rintro e w1 ⟨rfl, rfl⟩
  refine ⟨_, rfl, fun h => ?_, fun h => ?_⟩
  · have hf : roomF x 0 = false := by simpa using h
    exact ⟨by simp [xorE, hf, errV], Chg.refl _ _, by simpa [hf] using hg⟩
  · have hf : roomF x 0 = true := by simpa using h
    have hx0 : 0 ≤ x ∧ x + (0 : Nat) ≤ 274877906944 := by simpa [roomF] using hf
    obtain ⟨q, rfl⟩ := Int.eq_ofNat_of_zero_le hx0.1
    obtain ⟨w2, r2, k2⟩ := (St.ofBlk hg).stL (i := 0) (off := 44) (o := 44) (v := .int .i64 (q : Int)) rfl (Try.sizeOf3 _) rfl (by rw [streamL_len hk hn]; decide) rfl
    rw [streamL_set hk hn] at k2
    refine ⟨w2, r2, by simp [xorE, hf, errV], k2.chg, ?_⟩
    rw [if_pos hf, Int.toNat_natCast]
    exact k2.holds 0 _ rfl

theorem sxor_spec (g T : Nat) (key nonce : List UInt8) (p : Nat) (a : Option Addr) (n c : Nat) (vs : List Value) (ls : List (List UInt8)) (w : World) (hk : key.length = 32) (hn : nonce.length = 12) (hg : w.heap[g]? = some (.cells (streamL key nonce p).toArray T)) (hp : p ≤ 274877906944)
    (hr : Rd w a n c 1 vs) (hb : n ≤ 4611686018427387904) (h2 : Row2 w vs ls) (hlen : ∀ l ∈ ls, l.length ≤ 9223372036854775807) :
    Calls Try.prog 20 #[.pointer (some ⟨g, 0, none⟩), .slice a n c] w fun e w' => ∃ a' n' c', e = .returned (.tuple #[.slice a' n' c', errV (xorE p ls.flatten.length)]) ∧ Chg [g] w w' ∧
      w'.heap[g]? = some (.cells (streamL key nonce (if roomF p ls.flatten.length then p + ls.flatten.length else p)).toArray T) ∧ (xorR key nonce p ls.flatten).length = n' ∧ w'.ownsRow w.heap.size 5 1 (.slice a' n' c') n' (bv (xorR key nonce p ls.flatten)) := by
  have hvl : vs.length = n := by have := hr.len; simpa using this
  have hll : ls.length = n := by rw [← hvl, h2.len]
  have iS : ∀ i, i < n → ∃ b o a' n' c', a = some ⟨b, o, none⟩ ∧ RdB w a' n' c' (ls.getD i []) ∧ ∀ w', Cells w' a vs → (Instr.loadAt 29 (.pointer (some ⟨b, o + Int.toNat (i : Int) * 1, none⟩))).run Try.prog w' = .ok (.slice a' n' c') w' := by
    intro i hi
    obtain ⟨a', n', c', hv, hrd⟩ := h2.rd i (by omega)
    obtain ⟨b, o, ha, hcell⟩ := hr.cells.at_ hv
    refine ⟨b, o, a', n', c', ha, hrd, fun w' hc' => ?_⟩
    obtain ⟨b', o', ha', hcell'⟩ := hc'.at_ hv
    rw [ha] at ha'
    simp only [Option.some.injEq, Addr.mk.injEq, and_true] at ha'
    obtain ⟨rfl, rfl⟩ := ha'
    rw [show o + Int.toNat (i : Int) * 1 = o + i by omega]
    exact ld1 (Try.isAgg29 _) hcell'
  have ldat : ∀ w', w'.heap[g]? = some (.cells (streamL key nonce p).toArray T) → (Instr.loadAt 3 (.pointer (some ⟨g, 0 + 44, none⟩))).run Try.prog w' = .ok (.int .i64 (p : Int)) w' := fun w' hg' => (St.ofBlk hg').ldL (i := 0) rfl (Try.isAgg3 _) rfl (streamL_at hk hn p)
  apply chacha_Stream_XOR_vc
  refine ⟨fun x y w' => w' = w ∧ ∃ i : Nat, y = (i : Int) ∧ i ≤ n ∧ x = (((ls.take i).flatten.length : Nat) : Int) ∧ p + (ls.take i).flatten.length ≤ 274877906944, fun _ y _ => n - y.toNat, ⟨rfl, 0, rfl, by omega, rfl, by simpa using hp⟩, ?_⟩
  rintro x y w1 ⟨rfl, i, rfl, hi, rfl, hT⟩
  refine ⟨fun h => ?_, fun h => ?_⟩
  · have hi' : i < n := by simp at h; omega
    obtain ⟨b, o, a', n', c', ha, hrd, hld⟩ := iS i hi'
    have hnl := hrd.lenB
    have hn' : n' ≤ 9223372036854775807 := by
      rw [← hnl]; exact hlen _ (by rw [List.getD, List.getElem?_eq_getElem (by omega)]; exact List.getElem_mem _)
    have e0 : IntKind.wrap .i64 ((p : Int) + (((ls.take i).flatten.length : Nat) : Int)) = ((p + (ls.take i).flatten.length : Nat) : Int) := by rw [wrap_i64 (by omega) (by omega)]; omega
    have hft := flat_take (ls := ls) (i := i) (by omega)
    have hle := flat_take_le ls (i + 1)
    have hfl : (ls.take (i + 1)).flatten.length = (ls.take i).flatten.length + n' := by rw [hft, List.length_append, hnl]
    refine ⟨b, o, ha, by omega, by omega, _, _, _, hld w1 hr.cells, _, ldat w1 hg, ?_⟩
    rw [e0]
    refine (room_spec _ n' w1 (by omega) (by omega) hn').mono ?_
    rintro e w2 ⟨rfl, rfl⟩
    refine ⟨_, rfl, fun h => ?_, fun h => ?_⟩
    · have hf : roomF ((p + (ls.take i).flatten.length : Nat) : Int) n' = false := by simpa using h
      have hf2 : roomF (p : Int) ls.flatten.length = false := by
        simp only [roomF, Bool.and_eq_false_iff, decide_eq_false_iff_not] at hf ⊢
        omega
      have hR0 : xorR key nonce (p : Int) ls.flatten = [] := by unfold xorR; rw [hf2]; rfl
      rw [hR0, hf2]
      have hE0 : errV (xorE (p : Int) ls.flatten.length) = .iface 63 (.int .i64 8) := by unfold xorE; rw [hf2]; rfl
      rw [hE0]
      exact ⟨none, 0, 0, rfl, Chg.refl _ _, hg, rfl, World.ownsRow_nil _ _ _ _⟩
    · have hf : roomF ((p + (ls.take i).flatten.length : Nat) : Int) n' = true := by simpa using h
      have hx : p + (ls.take i).flatten.length + n' ≤ 274877906944 := by
        simp only [roomF, Bool.and_eq_true, decide_eq_true_eq] at hf; omega
      refine ⟨⟨rfl, i + 1, ?_, by omega, ?_, by omega⟩, ?_⟩
      · rw [wrap_i64 (by omega) (by omega)]; rfl
      · rw [wrap_i64 (by omega) (by omega)]; omega
      · show n - (IntKind.wrap .i64 ((i : Int) + 1)).toNat < n - ((i : Int)).toNat
        rw [wrap_i64 (by omega) (by omega)]; omega
  · have hi' : i = n := by simp at h; omega
    rw [hi', List.take_of_length_le (by omega)] at hT
    rw [hi', List.take_of_length_le (by omega)]
    clear hi hi' h
    obtain ⟨i', hi'⟩ : ∃ i', i' = n := ⟨_, rfl⟩
    rw [← hi'] at hll iS
    obtain ⟨N, hN⟩ : ∃ N, ls.flatten.length = N := ⟨_, rfl⟩
    rw [hN] at hT ⊢
    have hf : roomF (p : Int) N = true := by simp only [roomF, Bool.and_eq_true, decide_eq_true_eq]; omega
    have hE : errV (xorE (p : Int) N) = .nilIface := by simp [xorE, hf, errV]
    have hR : xorR key nonce (p : Int) ls.flatten = xorL key nonce p ls.flatten := by rw [xorR, hN, hf, if_pos rfl, Int.toNat_natCast]
    rw [hE, hR, hf, if_pos rfl]
    obtain ⟨g2, w2, r2, k2⟩ := (St.start w1).mk0n (kl := .i64) (kc := .i64) (c := N) bT (by omega) (by omega)
    have hglt : g < w1.heap.size := (getElem?_eq_some_iff.1 hg).1
    have hg2 : w1.heap.size ≤ g2 := by have := k2.own 0 _ rfl g2 (by simp [Res.fp, Value.ownBlock]); simpa using this
    have hne : g ≠ g2 := by omega
    refine ⟨_, _, _, _, r2, fun va vn vc y w' => ∃ i : Nat, y = (i : Int) ∧ i ≤ i' ∧ va = some ⟨g2, 0, none⟩ ∧ N = vc ∧ vn = (ls.take i).flatten.length ∧ St w1 [] w' [.row 5 1 (.slice va vn vc) vn (bv (ls.take i).flatten)], fun _ _ _ y _ => i' - y.toNat, ⟨0, rfl, by omega, rfl, rfl, rfl, k2⟩, ?_⟩
    rintro va vn vc y w3 ⟨i, rfl, hi, rfl, rfl, rfl, hS⟩
    refine ⟨fun h => ?_, fun h => ?_⟩
    · have hi' : i < i' := by simp at h; omega
      obtain ⟨b, o, a', n', c', ha, hrd, hld⟩ := iS i hi'
      have hnl := hrd.lenB
      have hft := flat_take (ls := ls) (i := i) (by omega)
      have hle := flat_take_le ls (i + 1)
      have hfl : (ls.take (i + 1)).flatten.length = (ls.take i).flatten.length + n' := by rw [hft, List.length_append, hnl]
      have hv := hld w3 (hr.keep0 hS.chg).cells
      obtain ⟨va', vc', w4, r4, k4, hin, _⟩ := hS.append (i := 0) (ty := 29) bT rfl (hS.rd1 hrd) (bv_one _) (by omega) (by simp only [maxLen]; omega)
      have hin' := hin (by omega)
      rw [hin'.1, hin'.2] at r4 k4
      rw [← bv_append, ← hft, ← hfl] at k4
      rw [← hfl] at r4
      refine ⟨b, o, ha, by omega, by omega, _, _, _, hv, _, _, _, _, r4, ⟨i + 1, ?_, by omega, rfl, rfl, rfl, k4⟩, ?_⟩
      · rw [wrap_i64 (by omega) (by omega)]; rfl
      · show i' - (IntKind.wrap .i64 ((i : Int) + 1)).toNat < i' - ((i : Int)).toNat
        rw [wrap_i64 (by omega) (by omega)]; omega
    · have hi'' : i = i' := by simp at h; omega
      rw [hi'', List.take_of_length_le (by omega)] at hS
      rw [hi'', List.take_of_length_le (by omega), hN]
      rw [hN] at hS
      have hg3 : w3.drew.heap[g]? = some (.cells (streamL key nonce p).toArray T) := by rw [hS.drew.chg.block g hglt (by simp)]; exact hg
      refine ⟨fun w' => w'.heap[g]? = some (.cells (streamL key nonce p).toArray T), hg3, _, fun w' h => ldat w' h, ?_⟩
      have rng := (St.ofBlk hg3).cellsA (i := 0) rfl
      have rk : w3.drew.rangeAt g 0 (bv key) := fun j v hj => rng j v (by rw [streamL, List.append_assoc, List.getElem?_append_left (List.getElem?_eq_some_iff.1 hj).1]; exact hj)
      have rn : w3.drew.rangeAt g (0 + 32) (bv nonce) := fun j v hj => by
        have hjl := (List.getElem?_eq_some_iff.1 hj).1
        have := rng (32 + j) v (by rw [streamL, List.append_assoc, List.getElem?_append_right (by simp [hk]), bv_length, hk, Nat.add_sub_cancel_left, List.getElem?_append_left hjl]; exact hj)
        rw [show 0 + 32 + j = 0 + (32 + j) by omega]; exact this
      refine (over_spec g 0 g2 N N p key nonce ls.flatten w3.drew hk hn rk rn hne (hS.drew.holds 0 _ rfl) hT).mono ?_
      rintro e w4 ⟨rfl, hc4, hrow4⟩
      have k4 := hS.drew.upd (i := 0) (r' := .row 5 1 (.slice (some ⟨g2, 0, none⟩) N N) N (bv (xorL key nonce p ls.flatten))) rfl (by simpa [Res.fp, Value.ownBlock] using hc4) hrow4 (by simp [Res.fp, Value.ownBlock])
      have hg4 : w4.heap[g]? = some (.cells (streamL key nonce p).toArray T) := by rw [k4.chg.block g hglt (by simp)]; exact hg
      refine ⟨rfl, fun w' => w'.heap[g]? = some (.cells (streamL key nonce p).toArray T), fun _ h => h, hg4, _, ldat w4 hg4, ?_⟩
      have e1 : IntKind.wrap .i64 ((p : Int) + (N : Int)) = ((p + N : Nat) : Int) := by rw [wrap_i64 (by omega) (by omega)]; omega
      rw [e1]
      obtain ⟨w5, r5, k5⟩ := (St.ofBlk hg4).stL (i := 0) (off := 0 + 44) (o := 44) (v := .int .i64 ((p + N : Nat) : Int)) rfl (Try.sizeOf3 _) rfl (by rw [streamL_len hk hn]; decide) rfl
      rw [streamL_set hk hn] at k5
      refine ⟨w5, r5, _, _, _, rfl, (k4.chg.mono (by simp)).trans k5.chg, k5.holds 0 _ rfl, by simpa using hN, ?_⟩
      have hf4 := k4.freshRow (i := 0) rfl
      obtain ⟨q1, q2⟩ := hf4
      refine ⟨q1, ?_⟩
      rcases q2 with ⟨hv, _⟩ | ⟨g', cap, cur, hv, hge, hh, hrest⟩
      · simp at hv
      · refine .inr ⟨g', cap, cur, hv, hge, ?_, hrest⟩
        rw [k5.chg.block g' (getElem?_eq_some_iff.1 hh).1 (by simp; omega)]
        exact hh

end Go.Proofs.Ythjipjhjhanddaa
