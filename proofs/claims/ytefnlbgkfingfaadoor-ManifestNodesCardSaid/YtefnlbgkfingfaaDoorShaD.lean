/- Contracts of sha: the Hasher's calls, Sum, Equal (conditions: those that each theorem names). -/
import Derived.Test.YtefnlbgkfingfaaDoorShaC
namespace Go.Proofs.YtefnlbgkfingfaaDoor
open Go Sx
set_option maxRecDepth 8000

theorem gk_not {w0 w : World} {X : List Nat} {N : List Res} (h : St w0 X w N) (hK : KTab w0) (hX : 0 ∉ X) : 0 ∉ fpsL N := fun hx => by
  obtain ⟨r, hr, hk⟩ := List.mem_flatMap.1 hx
  have := hK.lt
  rcases h.pw.2.1 r hr _ hk with h1 | h1
  · omega
  · exact hX h1

theorem Sx.St.own_or {w0 w : World} {X : List Nat} {N : List Res} (h : St w0 X w N) : ∀ k ∈ fpsL N, w0.heap.size ≤ k ∨ k ∈ X := fun k hk => by
  obtain ⟨r, hr, hk⟩ := List.mem_flatMap.1 hk
  exact h.pw.2.1 r hr k hk

theorem RdK.step {w w1 : World} {F : List Nat} {N : List Res} {a : Option Addr} {n c : Nat} {l : List UInt8} (h : RdK F w a n c l) (hS : St w F w1 N) : RdK (fpsL N) w1 a n c l := fun w2 hc =>
  h w2 (hS.chg.trans' hc hS.own_or)

/-- write, for a state that is held besides other things. -/
theorem write_in {w0 w : World} {X : List Nat} {M : List Res} (g T : Nat) (m : List UInt8) (a : Option Addr) (c : Nat) (a1 : Option Addr) (n1 c1 : Nat) (l : List UInt8) (hK : KTab w0) (hX : 0 ∉ X) (hS : St w0 X w (M ++ hM g T m a c)) (hr : RdK (fpsL (hM g T m a c)) w a1 n1 c1 l) (hb : m.length + l.length ≤ 140737488350000) :
    Calls Tryd.prog 62 #[.pointer (some ⟨g, 0, none⟩), .slice a1 n1 c1] w fun e w' => e = .returned (.tuple #[]) ∧ ∃ a' c', St w0 X w' (M ++ hM g T (m ++ l) a' c') ∧ Chg (fpsL (hM g T m a c)) w w' := by
  have hN := hS.sub (List.sublist_append_right M _)
  refine (write_spec _ g T m a c a1 n1 c1 l w (hK.keep hS.chg hX) (gk_not hN hK hX) hN.self hr hb).mono ?_
  rintro e w' ⟨rfl, a', c', h'⟩
  exact ⟨rfl, a', c', hS.callPart h', h'.chg⟩

/-- Lists that are readable under whatever changes of some blocks. -/
structure PartsK (F : List Nat) (w : World) (a : Option Addr) (n c : Nat) (vs : List Value) (ls : List (List UInt8)) : Prop where
  rd : ∀ w', Chg F w w' → Rd w' a n c 1 vs
  row : ∀ w', Chg F w w' → Row2 w' vs ls

theorem partsK_old {w0 w : World} {N : List Res} (h : St w0 [] w N) {a : Option Addr} {n c : Nat} {vs : List Value} {ls : List (List UInt8)} (hr : Rd w0 a n c 1 vs) (h2 : Row2 w0 vs ls) : PartsK (fpsL N) w a n c vs ls :=
  ⟨fun _ hc => hr.keep0 (h.chg.trans' hc fun k hk => .inl (h.fps_own k hk)), fun _ hc => h2.keep0 (h.chg.trans' hc fun k hk => .inl (h.fps_own k hk))⟩

/-- An element that is readable whatever of some blocks changes. -/
theorem PartsK.at_ {F : List Nat} {w : World} {a : Option Addr} {n c : Nat} {vs : List Value} {ls : List (List UInt8)} (h : PartsK F w a n c vs ls) {i : Nat} (hi : i < ls.length) : ∃ b o a' n' c', a = some ⟨b, o, none⟩ ∧ RdK F w a' n' c' (ls.getD i []) ∧
    ∀ w', Chg F w w' → (Instr.loadAt 23 (.pointer (some ⟨b, o + Int.toNat (i : Int) * 1, none⟩))).run Tryd.prog w' = .ok (.slice a' n' c') w' := by
  obtain ⟨b, o, a', n', c', ha, hv, hrd, hld⟩ := ixS (h.rd w (Chg.refl _ _)).cells (h.row w (Chg.refl _ _)) hi
  refine ⟨b, o, a', n', c', ha, fun w' hc => ?_, fun w' hc => hld w' (h.rd w' hc).cells⟩
  obtain ⟨a2, n2, c2, hv2, hrd2⟩ := (h.row w' hc).rd i hi
  rw [hv] at hv2
  simp only [Option.some.injEq, Value.slice.injEq] at hv2
  obtain ⟨rfl, rfl, rfl⟩ := hv2
  exact hrd2

theorem hWrite_spec {w0 w : World} {X : List Nat} {M : List Res} (g T : Nat) (m : List UInt8) (a : Option Addr) (c : Nat) (a1 : Option Addr) (n1 c1 : Nat) (vs : List Value) (ls : List (List UInt8)) (hK : KTab w0) (hX : 0 ∉ X) (hS : St w0 X w (M ++ hM g T m a c)) (hp : PartsK (fpsL (hM g T m a c)) w a1 n1 c1 vs ls) (hb : m.length + ls.flatten.length ≤ 140737488350000) (hn : n1 ≤ 4611686018427387904) :
    Calls Tryd.prog 57 #[.pointer (some ⟨g, 0, none⟩), .slice a1 n1 c1] w fun e w' => e = .returned (.tuple #[]) ∧ ∃ a' c', St w0 X w' (M ++ hM g T (m ++ ls.flatten) a' c') ∧ Chg (fpsL (hM g T m a c)) w w' := by
  have hln : ls.length = n1 := by have := (hp.rd w (Chg.refl _ _)).len; have := (hp.row w (Chg.refl _ _)).len; omega
  have hN0 := (hS.sub (List.sublist_append_right M _)).self
  have hgk : 0 ∉ fpsL (hM g T m a c) := gk_not (hS.sub (List.sublist_append_right M _)) hK hX
  apply sha_Hasher_Write_vc
  refine ⟨fun x w' => ∃ (i : Nat) (a' : Option Addr) (c' : Nat), x = (i : Int) ∧ i ≤ n1 ∧ St w (fpsL (hM g T m a c)) w' (hM g T (m ++ (ls.take i).flatten) a' c'), fun x _ => n1 - x.toNat, ⟨0, a, c, rfl, by omega, by simpa using hN0⟩, ?_⟩
  rintro x w1 ⟨i, a', c', rfl, hi, h1⟩
  refine ⟨fun h => ?_, fun h => ?_⟩
  · have hi' : i < n1 := by simp at h; omega
    obtain ⟨b, o, a2, n2, c2, ha, hrk, hld⟩ := hp.at_ (i := i) (by omega)
    have hf1 := flat_take (ls := ls) (i := i) (by omega)
    have hf2 := flat_take_le ls (i + 1)
    have hf3 := congrArg List.length hf1
    rw [List.length_append] at hf3
    refine ⟨b, o, ha, by omega, by omega, a2, n2, c2, hld w1 h1.chg, (write_in (M := []) g T _ a' c' a2 n2 c2 _ (hK.keep hS.chg hX) hgk h1 (hrk.step h1) (by rw [List.length_append]; omega)).mono ?_⟩
    rintro e w2 ⟨rfl, a3, c3, h3, _⟩
    refine ⟨rfl, ⟨i + 1, a3, c3, wrap_succ hi' hn, by omega, ?_⟩, mu_succ hi' hn⟩
    rw [hf1, ← List.append_assoc]
    exact h3
  · have hi' : i = n1 := by simp at h; omega
    rw [hi', ← hln, List.take_length] at h1
    exact ⟨rfl, a', c', hS.callPart h1, h1.chg⟩

theorem hWrite_nil (a1 : Option Addr) (n1 c1 : Nat) (w : World) : Calls Tryd.prog 57 #[.pointer none, .slice a1 n1 c1] w fun e w' => e = .returned (.tuple #[]) ∧ w' = w := by
  apply sha_Hasher_Write_vc_nil
  exact ⟨rfl, rfl⟩
/-- A digest is laid in a variable of its own, and read again. -/
theorem hSum_spec {w0 w : World} {X : List Nat} {M : List Res} (g T : Nat) (m : List UInt8) (a : Option Addr) (c : Nat) (hK : KTab w) (hS : St w0 X w (M ++ hM g T m a c)) (hb : m.length ≤ 70368744177664) :
    Calls Tryd.prog 58 #[.pointer (some ⟨g, 0, none⟩)] w fun e w' => e = .returned (.agg (bv (shaF m)).toArray) ∧ Chg [] w w' := by
  have hN := (hS.sub (List.sublist_append_right M _)).self
  apply sha_Hasher_Sum_vc
  obtain ⟨g1, w1, r1, h1⟩ := hN.zeroA d32Z
  have hc1 : Chg [] w w1 := by
    obtain ⟨g1', w1', r1', h1'⟩ := (St.start w).zeroA d32Z
    have e := r1.symm.trans r1'
    simp only [Result.ok.injEq] at e
    obtain ⟨_, rfl⟩ := e
    exact h1'.chg
  refine ⟨_, _, r1, _, h1.ldA (i := 0) rfl (stA _) (stS _) (hsL_len (hOf_len m) _ _ _ _), (sum_val_spec m a c w1 (hK.keep0 hc1) (h1.rd (i := 1) rfl) hb).mono ?_⟩
  rintro e w2 ⟨rfl, hc2⟩
  have h0 := ((St.start w).zeroA d32Z)
  obtain ⟨g1', w1', r1', h1'⟩ := h0
  have e := r1.symm.trans r1'
  simp only [Result.ok.injEq, Value.pointer.injEq, Option.some.injEq, Addr.mk.injEq, and_true] at e
  obtain ⟨⟨rfl, _⟩, rfl⟩ := e
  have h2 := h1'.same hc2
  obtain ⟨w3, r3, h3⟩ := h2.stA (i := 0) (v := bv (shaF m)) rfl (d32S _) (by simp) (shaF_len m |> fun h => by simp [h]) (bv_one _)
  exact ⟨_, rfl, w3, r3, _, h3.ldVarA (i := 0) rfl (d32A _) (d32S _) (by simp), rfl, h3.chg⟩

theorem shaSum_spec (a : Option Addr) (n c : Nat) (vs : List Value) (ls : List (List UInt8)) (w : World) (hK : KTab w) (hr : Rd w a n c 1 vs) (h2 : Row2 w vs ls) (hb : ls.flatten.length ≤ 70368744177664) (hn : n ≤ 4611686018427387904) :
    Calls Tryd.prog 55 #[.slice a n c] w fun e w' => e = .returned (.agg (bv (shaF ls.flatten)).toArray) ∧ Chg [] w w' := by
  apply sha_Sum_vc
  obtain ⟨g1, w1, r1, h1⟩ := (St.start w).zeroA d32Z
  refine ⟨_, _, r1, (shaNew_spec w1).mono ?_⟩
  rintro e w2 ⟨g, rfl, hN2⟩
  have h2' : St w [] w2 ([.arr g1 22 (bv (List.replicate 32 0))] ++ hM g 106 [] none 0) := by
    refine St.callPart (N := []) (w := w1) (by simpa using h1) ?_
    simpa [fpsL] using hN2
  have hN := h2'.sub (List.sublist_append_right _ _)
  refine ⟨_, _, rfl, (hWrite_spec g _ [] none 0 a n c vs ls hK (by simp) h2' (partsK_old hN hr h2) (by simp only [List.length_nil]; omega) hn).mono ?_⟩
  rintro e w3 ⟨rfl, a3, c3, h3, _⟩
  rw [List.nil_append] at h3
  refine ⟨rfl, (hSum_spec g _ _ a3 c3 (hK.keep0 h3.chg) h3 hb).mono ?_⟩
  rintro e w4 ⟨rfl, hc4⟩
  have h4 := h3.same hc4
  obtain ⟨w5, r5, h5⟩ := h4.stA (i := 0) (v := bv (shaF ls.flatten)) rfl (d32S _) (by simp) (by simp) (bv_one _)
  exact ⟨_, rfl, w5, r5, _, h5.ldVarA (i := 0) (l := bv (shaF ls.flatten)) rfl (d32A _) (d32S _) (by simp), rfl, h5.chg⟩

theorem or_zero {d x y : Nat} (hd : d < 256) (hx : x < 256) (hy : y < 256) : bor .u8 (d : Int) (bxor .u8 (x : Int) (y : Int)) = ((d ||| (x ^^^ y) : Nat) : Int) ∧ d ||| (x ^^^ y) < 256 ∧ (d ||| (x ^^^ y) = 0 ↔ d = 0 ∧ x = y) := by
  have hxy : x ^^^ y < 256 := Nat.xor_lt_two_pow (n := 8) hx hy
  refine ⟨?_, Nat.or_lt_two_pow (n := 8) hd hxy, ?_⟩
  · rw [bxor_nat rfl (by simpa [kmod, IntKind.bits] using hx) (by simpa [kmod, IntKind.bits] using hy), bor_nat rfl (by simpa [kmod, IntKind.bits] using hd) (by simpa [kmod, IntKind.bits] using hxy)]
  · constructor
    · intro h
      have h1 : d = 0 := by
        have : d ≤ d ||| (x ^^^ y) := Nat.left_le_or
        omega
      have h2 : x ^^^ y = 0 := by
        have : x ^^^ y ≤ d ||| (x ^^^ y) := Nat.right_le_or
        omega
      refine ⟨h1, ?_⟩
      have h3 : (x ^^^ y) ^^^ y = 0 ^^^ y := by rw [h2]
      rwa [Nat.xor_assoc, Nat.xor_self, Nat.xor_zero, Nat.zero_xor] at h3
    · rintro ⟨rfl, rfl⟩; simp

end Go.Proofs.YtefnlbgkfingfaaDoor
