/- Contracts of chacha's XOR and of the reference's (conditions: those that each theorem names). -/
import Derived.Test.YtlhhmoljlmmnoaaDoorChaD
import Derived.Test.YtlhhmoljlmmnoaaDoorNum
namespace Go.Proofs.YtlhhmoljlmmnoaaDoor
open Go Sx
set_option maxRecDepth 8000

/-- The stream's byte at a place; bytes under the stream. -/
def strB (key nonce : List UInt8) (p : Nat) : UInt8 := (blockF key (p / 64) nonce).getD (p % 64) 0
def xorL (key nonce : List UInt8) (at' : Nat) (l : List UInt8) : List UInt8 := l.mapIdx fun i b => b ^^^ strB key nonce (at' + i)
@[simp] theorem xorL_len (key nonce : List UInt8) (at' : Nat) (l : List UInt8) : (xorL key nonce at' l).length = l.length := by simp [xorL]
theorem xorL_get {key nonce : List UInt8} {at' : Nat} {l : List UInt8} {i : Nat} (h : i < l.length) : (xorL key nonce at' l)[i]? = some (l.getD i 0 ^^^ strB key nonce (at' + i)) := by simp [xorL, List.getD, h]

/-- The first i bytes of one row, the others of another. -/
def mix (x l : List UInt8) (i : Nat) : List UInt8 := x.take i ++ l.drop i
theorem mix_zero (x l : List UInt8) : mix x l 0 = l := by simp [mix]
theorem mix_all {x l : List UInt8} {n : Nat} (h : x.length = n) (h' : l.length = n) : mix x l n = x := by simp [mix, ← h, show l.length = x.length by omega]
theorem mix_len {x l : List UInt8} {i : Nat} (h : x.length = l.length) (hi : i ≤ l.length) : (mix x l i).length = l.length := by simp [mix]; omega
theorem mix_get {x l : List UInt8} {i : Nat} (h : x.length = l.length) (hi : i < l.length) : (mix x l i).getD i 0 = l.getD i 0 := by
  have hl : (x.take i).length = i := by rw [List.length_take]; omega
  simp [mix, List.getD, List.getElem?_append_right, hl]
theorem mix_set {x l : List UInt8} {i : Nat} {b : UInt8} (h : x.length = l.length) (hb : x[i]? = some b) : (mix x l i).set i b = mix x l (i + 1) := by
  have hi : i < x.length := (List.getElem?_eq_some_iff.1 hb).1
  have hl : (x.take i).length = i := by rw [List.length_take]; omega
  rw [mix, mix, List.set_append_right _ _ (by omega), hl, Nat.sub_self, List.drop_eq_getElem_cons (by omega : i < l.length), List.set_cons_zero, List.take_add_one, hb]
  simp

theorem xor_u8 (a b : UInt8) : bxor .u8 (a.toNat : Int) (b.toNat : Int) = ((a ^^^ b).toNat : Int) := by
  rw [bxor_nat rfl (by simpa [kmod, IntKind.bits] using a.toNat_lt) (by simpa [kmod, IntKind.bits] using b.toNat_lt), UInt8.toNat_xor]

theorem Sx.Chg.range {w w' : World} {X : List Nat} {b o : Nat} {cs : List Value} (hc : Chg X w w') (h : w.rangeAt b o cs) (hb : b ∉ X) : w'.rangeAt b o cs := by
  have hk : Cells w (some ⟨b, o, none⟩) cs := .inr ⟨b, o, rfl, h⟩
  rcases hk.keep hc (by rintro ad ⟨⟩; exact hb) with h0 | ⟨b', o', he, hr⟩
  · subst h0; intro j v hj; simp at hj
  · simp only [Option.some.injEq, Addr.mk.injEq, and_true] at he
    obtain ⟨rfl, rfl⟩ := he
    exact hr

theorem Sx.ldRange {P : Program} {w : World} {b o n : Nat} {cs : List Value} {T : TypeId} (h : w.rangeAt b o cs) (hT : (isAgg T).run P w = .ok true w) (hS : (sizeOf T).run P w = .ok n w) (hl : cs.length = n) :
    (Instr.loadAt T (.pointer (some ⟨b, o, none⟩))).run P w = .ok (.agg cs.toArray) w := by
  subst hl
  simp [Instr.loadAt, Instr.sureAddr, loadVar, hT, hS, loadCells_cells (P := P) h]

theorem Sx.St.ofRowC {w : World} {e : TypeId} {sz : Nat} {g n m c : Nat} {xs : List Value} (h : w.ownsRow 0 e sz (.slice (some ⟨g, 0, none⟩) n c) m xs) : St w [g] w [.row e sz (.slice (some ⟨g, 0, none⟩) n c) m xs] := by
  have one : ∀ (i : Nat) (r : Res), [Res.row e sz (.slice (some ⟨g, 0, none⟩) n c) m xs][i]? = some r → i = 0 ∧ r = .row e sz (.slice (some ⟨g, 0, none⟩) n c) m xs := by
    intro i r hr
    cases i with
    | zero => exact ⟨rfl, (Option.some.inj hr).symm⟩
    | succ i => simp at hr
  refine ⟨Chg.refl _ _, ?_, ?_, ?_⟩
  · intro i r hr; obtain ⟨_, rfl⟩ := one i r hr; exact h
  · intro i r hr k hk; obtain ⟨_, rfl⟩ := one i r hr; right; simpa [Res.fp, Value.ownBlock] using hk
  · intro i j r s hij hi hj; have := (one i r hi).1; have := (one j s hj).1; omega

theorem seatOver_spec (gs o g n c at' : Nat) (key nonce l : List UInt8) (w : World) (hk : key.length = 32) (hn : nonce.length = 12) (rk : w.rangeAt gs o (bv key)) (rn : w.rangeAt gs (o + 32) (bv nonce)) (hne : gs ≠ g)
    (hrow : w.ownsRow 0 5 1 (.slice (some ⟨g, 0, none⟩) n c) n (bv l)) (hat : at' + n ≤ 274877906944) :
    Calls Tryd.prog 58 #[.pointer (some ⟨gs, o, none⟩), .int .i64 (at' : Int), .slice (some ⟨g, 0, none⟩) n c] w fun e w' => e = .returned (.tuple #[]) ∧ Chg [g] w w' ∧ w'.ownsRow 0 5 1 (.slice (some ⟨g, 0, none⟩) n c) n (bv (xorL key nonce at' l)) := by
  apply chacha_seat_over_vc
  have hl : l.length = n := by have := hrow.1; simpa using this
  have ze : ∀ k : Nat, 0 + Int.toNat (k : Int) * 1 = k := fun k => by omega
  have sB : ∀ w, (sizeOf 5).run Tryd.prog w = .ok 1 w := fun w => Tryd.sizeOf5 w
  have s64 : ∀ w, (sizeOf 83).run Tryd.prog w = .ok 64 w := fun w => Tryd.sizeOf83 w
  have s32 : ∀ w, (sizeOf 22).run Tryd.prog w = .ok 32 w := fun w => Tryd.sizeOf22 w
  have s12 : ∀ w, (sizeOf 69).run Tryd.prog w = .ok 12 w := fun w => Tryd.sizeOf69 w
  obtain ⟨X, hX⟩ : ∃ X, xorL key nonce at' l = X := ⟨_, rfl⟩
  have hXl : X.length = l.length := by rw [← hX]; simp
  rw [hX]
  obtain ⟨g6, w1, r1, h1⟩ := (St.ofRowC hrow).zeroA zero64
  obtain ⟨M, hM⟩ : ∃ M : List UInt8 → List UInt8 → List Res, M = fun x B => [.row 5 1 (.slice (some ⟨g, 0, none⟩) n c) n (bv x), .arr g6 83 (bv B)] := ⟨_, rfl⟩
  have i0 : ∀ x B, (M x B)[0]? = some (.row 5 1 (.slice (some ⟨g, 0, none⟩) n c) n (bv x)) := fun x B => by rw [hM]; rfl
  have i1 : ∀ x B, (M x B)[1]? = some (.arr g6 83 (bv B)) := fun x B => by rw [hM]; rfl
  have q0 : ∀ x B y, (M x B).set 0 (.row 5 1 (.slice (some ⟨g, 0, none⟩) n c) n (bv y)) = M y B := fun x B y => by rw [hM]; rfl
  have q1 : ∀ x B y, (M x B).set 1 (.arr g6 83 (bv y)) = M x y := fun x B y => by rw [hM]; rfl
  have h1' : St w [g] w1 (M (mix X l 0) (List.replicate 64 0)) := by rw [hM, mix_zero]; exact h1
  refine ⟨_, _, r1, fun x y w' => ∃ (i : Nat) (B : List UInt8), y = (i : Int) ∧ i ≤ n ∧ B.length = 64 ∧ (x = -1 ∨ ∃ h : Nat, x = (h : Int) ∧ B = blockF key h nonce) ∧ St w [g] w' (M (mix X l i) B), fun _ y _ => n - y.toNat,
    ⟨0, _, rfl, by omega, by simp, .inl rfl, h1'⟩, ?_⟩
  rintro x y w2 ⟨i, B, rfl, hi, hBl, hB, hS⟩
  refine ⟨fun h => ?_, fun h => ?_⟩
  · have hi' : i < n := by simp at h; omega
    have ea : IntKind.wrap .i64 ((at' : Int) + (i : Int)) = ((at' + i : Nat) : Int) := by rw [wrap_i64 (by omega) (by omega)]; omega
    have ed : IntKind.wrap .i64 (Int.tdiv ((at' + i : Nat) : Int) 64) = (((at' + i) / 64 : Nat) : Int) := by rw [Int.tdiv_eq_ediv_of_nonneg (by omega), wrap_i64 (by omega) (by omega)]; omega
    have em : Int.tmod ((at' + i : Nat) : Int) 64 = (((at' + i) % 64 : Nat) : Int) := by rw [Int.tmod_eq_emod_of_nonneg (by omega)]; omega
    have ew : IntKind.wrap .u32 (((at' + i) / 64 : Nat) : Int) = (((at' + i) / 64 : Nat) : Int) := wrap_u32_nat (by omega)
    have e1 : IntKind.wrap .i64 ((i : Int) + 1) = ((i + 1 : Nat) : Int) := by rw [wrap_i64 (by omega) (by omega)]; rfl
    rw [ea, ed, em, ew, e1]
    refine ⟨fun x' w' => x' = (((at' + i) / 64 : Nat) : Int) ∧ St w [g] w' (M (mix X l i) (blockF key ((at' + i) / 64) nonce)), ⟨fun hd => ?_, fun hd => ?_⟩, ?_⟩
    · have kd := fun (w' : World) (h : St w [g] w' (M (mix X l i) B)) => h.chg.range rk (by simp [hne])
      have nd := fun (w' : World) (h : St w [g] w' (M (mix X l i) B)) => h.chg.range rn (by simp [hne])
      refine ⟨fun w' => St w [g] w' (M (mix X l i) B), hS.drew, _, fun w' h => ldRange (kd w' h) (e32 _) (s32 _) (by simp [hk]), _, fun w' h => ldRange (nd w' h) (e12 _) (s12 _) (by simp [hn]), (block_spec key nonce ((at' + i) / 64) _ hk hn (by omega)).mono ?_⟩
      rintro e w3 ⟨rfl, hc3⟩
      obtain ⟨w4, r4, h4⟩ := (hS.drew.same hc3).stA (v := bv (blockF key ((at' + i) / 64) nonce)) (i1 _ _) (s64 _) (by simp [hBl]) (by simp) (bv_one _)
      rw [q1] at h4
      exact ⟨_, rfl, fun w' => St w [g] w' (M (mix X l i) B), fun _ h => h, hS.drew.same hc3, w4, r4, rfl, h4⟩
    · have hx : x = (((at' + i) / 64 : Nat) : Int) := by simp at hd; exact hd.symm
      rcases hB with h0 | ⟨h', h0, hBh⟩
      · omega
      · have : h' = (at' + i) / 64 := by omega
        rw [this] at hBh
        exact ⟨hx, by rw [← hBh]; exact hS⟩
    · rintro x' w5 ⟨rfl, h5⟩
      have hlt : (at' + i) % 64 < 64 := Nat.mod_lt _ (by decide)
      have hml := mix_len hXl (show i ≤ l.length by omega)
      have ldm : ∀ w', St w [g] w' (M (mix X l i) (blockF key ((at' + i) / 64) nonce)) → (Instr.loadAt 5 (.pointer (some ⟨g, 0 + Int.toNat (i : Int) * 1, none⟩))).run Tryd.prog w' = .ok (.int .u8 ((l.getD i 0).toNat : Int)) w' := fun w' h => by
        have hc := h.cells (i0 _ _)
        have hv : (bv (mix X l i))[i]? = some (.int .u8 ((l.getD i 0).toNat : Int)) := by rw [bv_getD (by omega), mix_get hXl (by omega)]
        obtain ⟨b, o', he, hcell⟩ := hc.at_ hv
        simp only [Option.some.injEq, Addr.mk.injEq, and_true] at he
        obtain ⟨rfl, rfl⟩ := he
        rw [show 0 + Int.toNat (i : Int) * 1 = 0 + i by omega]
        exact ld1 (bA _) hcell
      refine ⟨fun w' => St w [g] w' (M (mix X l i) (blockF key ((at' + i) / 64) nonce)), h5.drew, g, 0, rfl, by omega, by omega, by omega, by omega, _, ldm, _, fun w' h => h.ldB (i1 _ _) (bA _) (ze ((at' + i) % 64)) (by simpa using hlt), g, 0, rfl, by omega, by omega, ?_⟩
      rw [xor_u8, show 0 + Int.toNat (i : Int) * 1 = i by omega]
      obtain ⟨w6, r6, h6⟩ := h5.drew.stRow (v := .int .u8 ((l.getD i 0 ^^^ (blockF key ((at' + i) / 64) nonce).getD ((at' + i) % 64) 0).toNat : Int)) (i0 _ _) (sB _) hi' rfl
      rw [bv_set, q0, mix_set hXl (by rw [← hX]; exact xorL_get (by omega))] at h6
      exact ⟨w6, r6, ⟨i + 1, _, rfl, by omega, by simp, .inr ⟨_, rfl, rfl⟩, h6⟩, by simp; omega⟩
  · have hi' : i = n := by simp at h; omega
    subst hi'
    rw [mix_all (by omega) (by omega)] at hS
    exact ⟨rfl, hS.chg, hS.holds 0 _ (i0 _ _)⟩

/-- Is there room? What XOR answers. -/
def roomF (x : Int) (n : Nat) : Bool := decide (0 ≤ x) && decide (x + n ≤ 274877906944)
def xorE (x : Int) (n : Nat) : Option Int := if roomF x n then none else some 8
def xorR (key nonce : List UInt8) (x : Int) (l : List UInt8) : List UInt8 := if roomF x l.length then xorL key nonce x.toNat l else []

theorem room_spec (x : Int) (n : Nat) (w : World) (h1 : -9223372036854775808 ≤ x) (h2 : x ≤ 9223372036854775807) (hn : n ≤ 9223372036854775807) : Calls Tryd.prog 57 #[.int .i64 x, .int .i64 (n : Int)] w fun e w' => e = .returned (.bool (roomF x n)) ∧ w' = w := by
  apply chacha_room_vc
  refine ⟨?_, rfl⟩
  have : (((decide (x ≥ (0 : Int))) && (decide (x ≤ (274877906944 : Int)))) && (decide ((n : Int) ≤ (IntKind.wrap .i64 ((274877906944 : Int) - x))))) = roomF x n := by
    by_cases h0 : 0 ≤ x
    · rw [wrap_i64 (by omega) (by omega)]
      simp only [roomF]
      rw [Bool.eq_iff_iff]
      simp only [Bool.and_eq_true, decide_eq_true_eq]
      omega
    · simp [roomF, h0]
  rw [this]

theorem built_seat : Tryd.prog.built 94 = fun parts => Instr.fill (fun i => (#[(0, 32), (32, 12)] : Array (Nat × Nat))[i]?) (bv (List.replicate 44 0)).toArray parts := by kernel_rfl

theorem seat_build (key nonce : List UInt8) (hk : key.length = 32) (hn : nonce.length = 12) (w : World) : (Instr.build 94 #[(0, .agg (bv key).toArray), (1, .agg (bv nonce).toArray)]).run Tryd.prog w = .ok (.agg (bv key ++ bv nonce).toArray) w := by
  apply run_build
  rw [built_seat]
  show Instr.fill _ _ [(0, .agg (bv key).toArray), (1, .agg (bv nonce).toArray)] = _
  rw [fill_step (off := 0) (sz := 32) rfl (by simp [Value.cells, hk]) (by simp), fill_step (off := 32) (sz := 12) rfl (by simp [Value.cells, hn]) (by simp [Value.cells, hk])]
  simp [Instr.fill, Value.cells, hk, hn]

theorem xor_spec (key nonce : List UInt8) (x : Int) (a : Option Addr) (n c : Nat) (l : List UInt8) (w : World) (hk : key.length = 32) (hn : nonce.length = 12) (h1 : -9223372036854775808 ≤ x) (h2 : x ≤ 9223372036854775807) (hr : RdB w a n c l) (hb : n ≤ 9223372036854775807) :
    Calls Tryd.prog 47 #[.agg (bv key).toArray, .agg (bv nonce).toArray, .int .i64 x, .slice a n c] w fun e w' => ∃ a' n' c', e = .returned (.tuple #[.slice a' n' c', errV (xorE x n)]) ∧ FreshB w w' a' n' c' (xorR key nonce x l) := by
  have hl := hr.lenB
  apply chacha_XOR_vc
  have s32 : ∀ w, (sizeOf 22).run Tryd.prog w = .ok 32 w := fun w => Tryd.sizeOf22 w
  have s12 : ∀ w, (sizeOf 69).run Tryd.prog w = .ok 12 w := fun w => Tryd.sizeOf69 w
  obtain ⟨g1, w1, r1, k1⟩ := (St.start w).boxA (P := Tryd.prog) 22 (bv key)
  obtain ⟨g2, w2, r2, k2⟩ := k1.boxA (P := Tryd.prog) 69 (bv nonce)
  refine ⟨_, _, r1, _, _, r2, (room_spec x n w2 h1 h2 hb).mono ?_⟩
  rintro e w3 ⟨rfl, rfl⟩
  refine ⟨_, rfl, fun h => ?_, fun h => ?_⟩
  · have hf : roomF x n = false := by simpa using h
    refine ⟨none, 0, 0, by simp [xorE, hf, errV], ?_⟩
    rw [xorR, hl, hf]
    exact ⟨k2.chg, rfl, World.ownsRow_nil _ _ _ _⟩
  · have hf : roomF x n = true := by simpa using h
    have hx0 : 0 ≤ x ∧ x + n ≤ 274877906944 := by simpa [roomF] using hf
    obtain ⟨at', rfl⟩ := Int.eq_ofNat_of_zero_le hx0.1
    obtain ⟨g, w4, r4, k4⟩ := k2.mk0n (kl := .i64) (kc := .i64) (c := n) bT (by omega) (by omega)
    obtain ⟨va, vc, w5, r5, k5, hin, _⟩ := k4.append (i := 2) (ty := 25) bT rfl (k4.rd1 hr) (bv_one l) (by omega) (by simp only [maxLen]; omega)
    have hv := hin (by omega)
    rw [Nat.zero_add, hv.1, hv.2] at r5 k5
    refine ⟨_, _, _, _, r4, _, _, _, _, r5, _, k5.ldA (i := 0) rfl (e32 _) (s32 _) (by simp [hk]), _, k5.ldA (i := 1) rfl (e12 _) (s12 _) (by simp [hn]), _, seat_build key nonce hk hn _, ?_⟩
    obtain ⟨g6, w6, r6, k6⟩ := k5.boxA (P := Tryd.prog) 94 (bv key ++ bv nonce)
    refine ⟨_, _, r6, ?_⟩
    have rng := k6.cellsA (i := 3) rfl
    have hne : g6 ≠ g := fun e => k6.apart 3 2 _ _ (by decide) rfl rfl g6 (by simp [Res.fp]) (by simp [Res.fp, Value.ownBlock, e])
    have rk : w6.rangeAt g6 0 (bv key) := fun j v hj => rng j v (by rw [List.getElem?_append_left (List.getElem?_eq_some_iff.1 hj).1]; exact hj)
    have rn : w6.rangeAt g6 (0 + 32) (bv nonce) := fun j v hj => by
      have := rng (32 + j) v (by rw [List.getElem?_append_right (by simp [hk]), bv_length, hk, Nat.add_sub_cancel_left]; exact hj)
      rw [show 0 + 32 + j = 0 + (32 + j) by omega]; exact this
    refine (seatOver_spec g6 0 g n n at' key nonce l w6 hk hn rk rn hne (k6.holds 2 _ rfl) (by omega)).mono ?_
    rintro e w7 ⟨rfl, hc7, hrow⟩
    have he : errV (xorE (at' : Int) n) = .nilIface := by simp [xorE, hf, errV]
    rw [he]
    refine ⟨rfl, _, _, _, rfl, ?_⟩
    rw [xorR, hl, hf, if_pos rfl, Int.toNat_natCast]
    have := k6.upd (i := 2) (r' := .row 5 1 (.slice (some ⟨g, 0, none⟩) n n) n (bv (xorL key nonce at' l))) rfl (by simpa [Res.fp, Value.ownBlock] using hc7) hrow (by simp [Res.fp, Value.ownBlock])
    exact this.freshB (i := 2) rfl

theorem rxor_spec (key nonce : List UInt8) (x : Int) (a : Option Addr) (n c : Nat) (l : List UInt8) (w : World) (hk : key.length = 32) (hn : nonce.length = 12) (h1 : -9223372036854775808 ≤ x) (h2 : x ≤ 9223372036854775807) (hr : RdB w a n c l) (hb : n ≤ 9223372036854775807) :
    Calls Tryd.prog 38 #[.agg (bv key).toArray, .agg (bv nonce).toArray, .int .i64 x, .slice a n c] w fun e w' => ∃ a' n' c', e = .returned (.tuple #[.slice a' n' c', .int .i64 ((xorE x n).getD 0)]) ∧ FreshB w w' a' n' c' (xorR key nonce x l) := by
  have hl := hr.lenB
  apply amphoraref03_XOR_vc
  have ze : ∀ k : Nat, 0 + Int.toNat (k : Int) * 1 = k := fun k => by omega
  have sB : ∀ w, (sizeOf 5).run Tryd.prog w = .ok 1 w := fun w => Tryd.sizeOf5 w
  have s64 : ∀ w, (sizeOf 83).run Tryd.prog w = .ok 64 w := fun w => Tryd.sizeOf83 w
  have s32 : ∀ w, (sizeOf 22).run Tryd.prog w = .ok 32 w := fun w => Tryd.sizeOf22 w
  have s12 : ∀ w, (sizeOf 69).run Tryd.prog w = .ok 12 w := fun w => Tryd.sizeOf69 w
  obtain ⟨g1, w1, r1, k1⟩ := (St.start w).boxA (P := Tryd.prog) 22 (bv key)
  obtain ⟨g2, w2, r2, k2⟩ := k1.boxA (P := Tryd.prog) 69 (bv nonce)
  have hbool : (((decide (x < (0 : Int))) || (decide (x > (274877906944 : Int)))) || (decide (((n : Nat) : Int) > (IntKind.wrap .i64 ((274877906944 : Int) - x))))) = !(roomF x n) := by
    by_cases h0 : 0 ≤ x
    · rw [wrap_i64 (by omega) (by omega)]
      simp only [roomF]
      rw [Bool.eq_iff_iff]
      simp only [Bool.and_eq_true, Bool.or_eq_true, Bool.not_eq_true', Bool.and_eq_false_iff, decide_eq_true_eq, decide_eq_false_iff_not]
      omega
    · have : x < 0 := by omega
      simp [roomF, h0, this]
  rw [hbool]
  refine ⟨_, _, r1, _, _, r2, fun h => ?_, fun h => ?_⟩
  · have hf : roomF x n = false := by simpa using h
    refine ⟨none, 0, 0, by simp [xorE, hf], ?_⟩
    rw [xorR, hl, hf]
    exact ⟨k2.chg, rfl, World.ownsRow_nil _ _ _ _⟩
  · have hf : roomF x n = true := by simpa using h
    have hx0 : 0 ≤ x ∧ x + n ≤ 274877906944 := by simpa [roomF] using hf
    obtain ⟨at', rfl⟩ := Int.eq_ofNat_of_zero_le hx0.1
    obtain ⟨g3, w3, r3, k3⟩ := k2.lit bT [] (by simp) (by simp)
    have hb := build_arr (P := Tryd.prog) (w := w3) (zero64 w3) Tryd.underlying83 (sB _) [] (by simp) (by simp)
    obtain ⟨g4, w4, r4, k4⟩ := k3.zeroA zero64
    obtain ⟨w5, r5, k5⟩ := k4.stA (i := 3) (v := bv (List.replicate 64 0)) rfl (s64 _) (by simp) (by simp) (bv_one _)
    have he : (xorE (at' : Int) n).getD 0 = 0 := by simp [xorE, hf]
    have hR : xorR key nonce (at' : Int) l = xorL key nonce at' l := by rw [xorR, hl, hf, if_pos rfl, Int.toNat_natCast]
    rw [he, hR]
    obtain ⟨X, hX⟩ : ∃ X, xorL key nonce at' l = X := ⟨_, rfl⟩
    have hXl : X.length = l.length := by rw [← hX]; simp
    rw [hX]
    obtain ⟨M, hM⟩ : ∃ M : Option Addr → Nat → Nat → List UInt8 → List UInt8 → List Res, M = fun va vn vc y B => [.arr g1 22 (bv key), .arr g2 69 (bv nonce), .row 5 1 (.slice va vn vc) vn (bv y), .arr g4 83 (bv B)] := ⟨_, rfl⟩
    have i0 : ∀ va vn vc y B, (M va vn vc y B)[0]? = some (.arr g1 22 (bv key)) := fun va vn vc y B => by rw [hM]; rfl
    have i1 : ∀ va vn vc y B, (M va vn vc y B)[1]? = some (.arr g2 69 (bv nonce)) := fun va vn vc y B => by rw [hM]; rfl
    have i2 : ∀ va vn vc y B, (M va vn vc y B)[2]? = some (.row 5 1 (.slice va vn vc) vn (bv y)) := fun va vn vc y B => by rw [hM]; rfl
    have i3 : ∀ va vn vc y B, (M va vn vc y B)[3]? = some (.arr g4 83 (bv B)) := fun va vn vc y B => by rw [hM]; rfl
    have q2 : ∀ va vn vc y B va' vn' vc' y', (M va vn vc y B).set 2 (.row 5 1 (.slice va' vn' vc') vn' (bv y')) = M va' vn' vc' y' B := fun va vn vc y B va' vn' vc' y' => by rw [hM]; rfl
    have q3 : ∀ va vn vc y B B', (M va vn vc y B).set 3 (.arr g4 83 (bv B')) = M va vn vc y B' := fun va vn vc y B B' => by rw [hM]; rfl
    refine ⟨_, _, _, _, r3, _, hb, _, _, r4, _, r5, fun va vn vc y w' => ∃ (i : Nat) (B : List UInt8), y = (i : Int) ∧ vn = i ∧ i ≤ n ∧ B.length = 64 ∧ (i = 0 ∨ B = blockF key ((at' + i - 1) / 64) nonce) ∧ St w [] w' (M va vn vc (X.take i) B), fun _ _ _ y _ => n - y.toNat,
      ⟨0, List.replicate 64 0, rfl, rfl, by omega, by simp, .inl rfl, by rw [hM]; exact k5⟩, ?_⟩
    rintro va vn vc y w6 ⟨i, B, rfl, rfl, hi, hBl, hB, hS⟩
    refine ⟨fun h => ?_, fun h => ?_⟩
    · have hi' : vn < n := by simp at h; omega
      have ea : IntKind.wrap .i64 ((at' : Int) + (vn : Int)) = ((at' + vn : Nat) : Int) := by rw [wrap_i64 (by omega) (by omega)]; omega
      have ed : IntKind.wrap .i64 (Int.tdiv ((at' + vn : Nat) : Int) 64) = (((at' + vn) / 64 : Nat) : Int) := by rw [Int.tdiv_eq_ediv_of_nonneg (by omega), wrap_i64 (by omega) (by omega)]; omega
      have em : Int.tmod ((at' + vn : Nat) : Int) 64 = (((at' + vn) % 64 : Nat) : Int) := by rw [Int.tmod_eq_emod_of_nonneg (by omega)]; omega
      have ew : IntKind.wrap .u32 (((at' + vn) / 64 : Nat) : Int) = (((at' + vn) / 64 : Nat) : Int) := wrap_u32_nat (by omega)
      have e1 : IntKind.wrap .i64 ((vn : Int) + 1) = ((vn + 1 : Nat) : Int) := by rw [wrap_i64 (by omega) (by omega)]; rfl
      rw [ea, ed, em, ew, e1]
      refine ⟨fun w' => St w [] w' (M va vn vc (X.take vn) (blockF key ((at' + vn) / 64) nonce)), ⟨fun hd => ?_, fun hd => ?_⟩, ?_⟩
      · refine ⟨_, hS.ldA (i0 _ _ _ _ _) (e32 _) (s32 _) (by simp [hk]), _, hS.ldA (i1 _ _ _ _ _) (e12 _) (s12 _) (by simp [hn]), (rblock_spec key nonce ((at' + vn) / 64) _ hk hn (by omega)).mono ?_⟩
        rintro e w7 ⟨rfl, hc7⟩
        obtain ⟨w8, r8, h8⟩ := (hS.same hc7).stA (v := bv (blockF key ((at' + vn) / 64) nonce)) (i3 _ _ _ _ _) (s64 _) (by simp [hBl]) (by simp) (bv_one _)
        rw [q3] at h8
        exact ⟨_, rfl, w8, r8, h8⟩
      · simp only [Bool.or_eq_false_iff, beq_eq_false_iff_ne] at hd
        rcases hB with h0 | h0
        · omega
        · rw [show (at' + vn) / 64 = (at' + vn - 1) / 64 by omega, ← h0]; exact hS
      · intro w7 h7
        have hlt : (at' + vn) % 64 < 64 := Nat.mod_lt _ (by decide)
        have hxg : X[vn]? = some (l.getD vn 0 ^^^ strB key nonce (at' + vn)) := by rw [← hX]; exact xorL_get (by omega)
        refine ix0 hr.cells hl vn hi' fun b o ha hld => ?_
        obtain ⟨g8, w8, va', vc', w9, r8, r9, h9, h8⟩ := h7.drew.push1 (i2 _ _ _ _ _) (by omega) (l.getD vn 0 ^^^ (blockF key ((at' + vn) / 64) nonce).getD ((at' + vn) % 64) 0).toNat (UInt8.toNat_lt _)
        rw [q2, UInt8.ofNat_toNat, show X.take vn ++ [l.getD vn 0 ^^^ (blockF key ((at' + vn) / 64) nonce).getD ((at' + vn) % 64) 0] = X.take (vn + 1) by rw [List.take_add_one, hxg]; rfl] at h9
        have toS : ∀ w' va vm vc y, St w [] w' (M va vm vc y (blockF key ((at' + vn) / 64) nonce)) → ∃ va vm vc y, St w [] w' (M va vm vc y (blockF key ((at' + vn) / 64) nonce)) := fun w' va vm vc y h => ⟨_, _, _, _, h⟩
        refine ⟨fun w' => ∃ va vm vc y, St w [] w' (M va vm vc y (blockF key ((at' + vn) / 64) nonce)), toS _ _ _ _ _ h7.drew, b, o, ha, by omega, by omega, by omega, by omega, _, fun w' ⟨_, _, _, _, h⟩ => hld w' (h.rd1 hr).cells, _, fun w' ⟨_, _, _, _, h⟩ => h.ldB (i3 _ _ _ _ _) (bA _) (ze ((at' + vn) % 64)) (by simpa using hlt), ?_⟩
        rw [xor_u8]
        exact ⟨_, _, _, _, r8, _, fun _ h => h, toS _ _ _ _ _ h8, _, _, _, _, r9, _, fun _ h => h, toS _ _ _ _ _ h9, ⟨vn + 1, _, rfl, rfl, by omega, by simp, .inr (by rw [show at' + (vn + 1) - 1 = at' + vn by omega]), h9⟩, by simp; omega⟩
    · have hi' : vn = n := by simp at h; omega
      subst hi'
      rw [List.take_of_length_le (by omega)] at hS
      exact ⟨_, _, _, rfl, hS.freshB (i2 _ _ _ _ _)⟩

end Go.Proofs.YtlhhmoljlmmnoaaDoor
