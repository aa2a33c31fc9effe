/- Contracts of sha: rotr, schedule, block (conditions: those that each theorem names). -/
import Derived.Test.YtefnlbgkfingfaaDoorShaF
import Derived.Test.YtefnlbgkfingfaaDoorVsha
import Derived.Test.YtefnlbgkfingfaaDoorVnum
import Derived.Test.YtefnlbgkfingfaaDoorClone
namespace Go.Proofs.YtefnlbgkfingfaaDoor
open Go Sx
set_option maxRecDepth 8000

theorem uA (w : World) : (isAgg 98).run Tryd.prog w = .ok false w := Tryd.isAgg98 w
theorem uS (w : World) : (sizeOf 98).run Tryd.prog w = .ok 1 w := Tryd.sizeOf98 w
theorem w64A (w : World) : (isAgg 99).run Tryd.prog w = .ok true w := Tryd.isAgg99 w
theorem w64S (w : World) : (sizeOf 99).run Tryd.prog w = .ok 64 w := Tryd.sizeOf99 w
theorem w8A (w : World) : (isAgg 100).run Tryd.prog w = .ok true w := Tryd.isAgg100 w
theorem w8S (w : World) : (sizeOf 100).run Tryd.prog w = .ok 8 w := Tryd.sizeOf100 w
theorem w64Z (w : World) : (zeroValue 99).run Tryd.prog w = .ok (.agg (kv .u32 (List.replicate 64 0)).toArray) w := Tryd.zeroValue99 w
theorem w8Z (w : World) : (zeroValue 100).run Tryd.prog w = .ok (.agg (kv .u32 (List.replicate 8 0)).toArray) w := Tryd.zeroValue100 w

/-- The table of the package lies where the program laid it. -/
def KTab (w : World) : Prop := w.rangeAt 0 0 (kv .u32 kTab)

theorem KTab.keep0 {w w' : World} (h : KTab w) (hc : Chg [] w w') : KTab w' := fun j v hj => by
  have h1 := h j v hj
  rw [← h1]
  exact World.cell?_of_block (hc.block _ (World.block_lt_of_cell? w _ h1) (by simp))
theorem KTab.lt {w : World} (h : KTab w) : 0 < w.heap.size := World.block_lt_of_cell? w ⟨0, 0 + 0, none⟩ (h 0 (.int .u32 1116352408) rfl)
theorem KTab.keep {w w' : World} {X : List Nat} (h : KTab w) (hc : Chg X w w') (hX : 0 ∉ X) : KTab w' := fun j v hj => by
  have h1 := h j v hj
  rw [← h1]
  exact World.cell?_of_block (hc.block _ (World.block_lt_of_cell? w _ h1) hX)

theorem and_val {a b : Nat} (ha : a < 4294967296) (hb : b < 4294967296) : band .u32 (a : Int) (b : Int) = ((a &&& b : Nat) : Int) := band_nat rfl (by simpa [kmod, IntKind.bits] using ha) (by simpa [kmod, IntKind.bits] using hb)
theorem not_val {a : Nat} (ha : a < 4294967296) : bxor .u32 (IntKind.max .u32) (a : Int) = ((4294967295 ^^^ a : Nat) : Int) := by
  rw [show (IntKind.max .u32) = ((4294967295 : Nat) : Int) by decide]
  exact xor_val (by decide) ha
theorem shr_val (x n : Nat) (h : n ≤ 32) : shrI .u32 (x : Int) ((n : Nat) : Int) = ((x / 2 ^ n : Nat) : Int) := shr_nat _ _ _ h

theorem rotr_spec (x n : Nat) (w : World) (hx : x < 4294967296) (hn : n < 32) (h0 : 0 < n) : Calls Tryd.prog 66 #[.int .u32 (x : Int), .int .i64 (n : Int)] w fun e w' => e = .returned (.int .u32 ((rotr x n : Nat) : Int)) ∧ w' = w := by
  apply sha_rotr_vc
  apply bits_RotateLeft32_vc
  have h1 : band .u64 (IntKind.wrap .u64 (IntKind.wrap .i64 (0 - (n : Int)))) 31 = ((32 - n : Nat) : Int) := by
    have e : IntKind.wrap .u64 (IntKind.wrap .i64 (0 - (n : Int))) = ((18446744073709551616 - n : Nat) : Int) := by rw [wrap_i64 (by omega) (by omega), wrap_u64]; omega
    rw [e, show (31 : Int) = ((31 : Nat) : Int) from rfl, band_nat rfl (by simp [kmod, IntKind.bits]; omega) (by simp [kmod, IntKind.bits]), show (18446744073709551616 - n) &&& 31 = (18446744073709551616 - n) % 32 from Nat.and_two_pow_sub_one_eq_mod _ 5]
    omega
  have h2 : IntKind.wrap .u64 ((32 : Int) - ((32 - n : Nat) : Int)) = ((n : Nat) : Int) := by rw [wrap_u64]; omega
  rw [h1, h2]
  refine ⟨by omega, by omega, _, rfl, ?_, rfl⟩
  rw [shl_val (show 32 - n ≤ 32 by omega), shr_val _ _ (by omega), or_val (Nat.mod_lt _ (by decide)) (shr_lt _ hx)]
  rfl

theorem sg0_val {x : Nat} (h : x < 4294967296) : bxor .u32 (bxor .u32 ((rotr x 7 : Nat) : Int) ((rotr x 18 : Nat) : Int)) (shrI .u32 (x : Int) 3) = ((sg0 x : Nat) : Int) := by
  rw [show (3 : Int) = ((3 : Nat) : Int) from rfl, shr_val _ _ (by decide), xor_val (rotr_lt _ h) (rotr_lt _ h), xor_val (xor_lt (rotr_lt _ h) (rotr_lt _ h)) (shr_lt _ h)]; rfl
theorem sg1_val {x : Nat} (h : x < 4294967296) : bxor .u32 (bxor .u32 ((rotr x 17 : Nat) : Int) ((rotr x 19 : Nat) : Int)) (shrI .u32 (x : Int) 10) = ((sg1 x : Nat) : Int) := by
  rw [show (10 : Int) = ((10 : Nat) : Int) from rfl, shr_val _ _ (by decide), xor_val (rotr_lt _ h) (rotr_lt _ h), xor_val (xor_lt (rotr_lt _ h) (rotr_lt _ h)) (shr_lt _ h)]; rfl
theorem bg0_val {x : Nat} (h : x < 4294967296) : bxor .u32 (bxor .u32 ((rotr x 2 : Nat) : Int) ((rotr x 13 : Nat) : Int)) ((rotr x 22 : Nat) : Int) = ((bg0 x : Nat) : Int) := by
  rw [xor_val (rotr_lt _ h) (rotr_lt _ h), xor_val (xor_lt (rotr_lt _ h) (rotr_lt _ h)) (rotr_lt _ h)]; rfl
theorem bg1_val {x : Nat} (h : x < 4294967296) : bxor .u32 (bxor .u32 ((rotr x 6 : Nat) : Int) ((rotr x 11 : Nat) : Int)) ((rotr x 25 : Nat) : Int) = ((bg1 x : Nat) : Int) := by
  rw [xor_val (rotr_lt _ h) (rotr_lt _ h), xor_val (xor_lt (rotr_lt _ h) (rotr_lt _ h)) (rotr_lt _ h)]; rfl
theorem ch_val {e f g : Nat} (he : e < 4294967296) (hf : f < 4294967296) (hg : g < 4294967296) : bxor .u32 (band .u32 (e : Int) (f : Int)) (band .u32 (bxor .u32 (IntKind.max .u32) (e : Int)) (g : Int)) = ((chF e f g : Nat) : Int) := by
  rw [not_val he, and_val he hf, and_val (xor_lt (by decide) he) hg, xor_val (and_lt _ he) (and_lt _ (xor_lt (by decide) he))]; rfl
theorem maj_val {a b c : Nat} (ha : a < 4294967296) (hb : b < 4294967296) (hc : c < 4294967296) : bxor .u32 (bxor .u32 (band .u32 (a : Int) (b : Int)) (band .u32 (a : Int) (c : Int))) (band .u32 (b : Int) (c : Int)) = ((majF a b c : Nat) : Int) := by
  rw [and_val ha hb, and_val ha hc, and_val hb hc, xor_val (and_lt _ ha) (and_lt _ ha), xor_val (xor_lt (and_lt _ ha) (and_lt _ ha)) (and_lt _ hb)]; rfl

theorem be4_val (b0 b1 b2 b3 : Nat) (h0 : b0 < 256) (h1 : b1 < 256) (h2 : b2 < 256) (h3 : b3 < 256) :
    bor .u32 (bor .u32 (bor .u32 (shlI .u32 (IntKind.wrap .u32 (b0 : Int)) 24) (shlI .u32 (IntKind.wrap .u32 (b1 : Int)) 16)) (shlI .u32 (IntKind.wrap .u32 (b2 : Int)) 8)) (IntKind.wrap .u32 (b3 : Int)) = ((((b0 * 256 + b1) * 256 + b2) * 256 + b3 : Nat) : Int) := by
  rw [wrap_u32_nat (show b0 < 4294967296 by omega), wrap_u32_nat (show b1 < 4294967296 by omega), wrap_u32_nat (show b2 < 4294967296 by omega), wrap_u32_nat (show b3 < 4294967296 by omega),
    show (24 : Int) = ((24 : Nat) : Int) from rfl, show (16 : Int) = ((16 : Nat) : Int) from rfl, show (8 : Int) = ((8 : Nat) : Int) from rfl, shl_val (by decide), shl_val (by decide), shl_val (by decide),
    Nat.mod_eq_of_lt (show b0 * 2 ^ 24 < 4294967296 by omega), Nat.mod_eq_of_lt (show b1 * 2 ^ 16 < 4294967296 by omega), Nat.mod_eq_of_lt (show b2 * 2 ^ 8 < 4294967296 by omega),
    or_val (by omega) (by omega), or_sum _ _ 24 (by omega), show b0 * 2 ^ 24 + b1 * 2 ^ 16 = (b0 * 256 + b1) * 2 ^ 16 by omega, or_val (by omega) (by omega), or_sum _ _ 16 (by omega), show (b0 * 256 + b1) * 2 ^ 16 + b2 * 2 ^ 8 = ((b0 * 256 + b1) * 256 + b2) * 2 ^ 8 by omega, or_val (by omega) (by omega), or_sum _ _ 8 (by omega)]

theorem schedule_spec (a : Option Addr) (n c : Nat) (l : List UInt8) (w : World) (hr : RdB w a n c l) (hn : n = 64) :
    Calls Tryd.prog 65 #[.slice a n c] w fun e w' => e = .returned (.agg (kv .u32 (schedK l 64)).toArray) ∧ Chg [] w w' := by
  have hl := hr.lenB
  apply sha_schedule_vc
  obtain ⟨g1, w1, r1, h1⟩ := (St.start w).zeroA w64Z
  obtain ⟨g2, w2, r2, h2⟩ := h1.zeroA w64Z
  have ze : ∀ k : Nat, 0 + Int.toNat (k : Int) * 1 = k := fun k => by omega
  refine ⟨_, _, r1, _, _, r2, fun x w' => ∃ k : Nat, x = (k : Int) ∧ k ≤ 16 ∧ St w [] w' [.arr g1 99 (kv .u32 (List.replicate 64 0)), .arr g2 99 (kv .u32 (schedK l k))], fun x _ => 16 - x.toNat, ⟨0, rfl, by omega, h2⟩, ?_⟩
  rintro x w3 ⟨k, rfl, hk, hS⟩
  refine ⟨fun h => ?_, fun h => ?_⟩
  · have hk' : k < 16 := by simp at h; omega
    have e1 : IntKind.wrap .i64 ((4 : Int) * (k : Int)) = ((4 * k : Nat) : Int) := by rw [wrap_i64 (by omega) (by omega)]; omega
    have e2 : ∀ j : Nat, j < 4 → IntKind.wrap .i64 (((4 * k : Nat) : Int) + (j : Int)) = ((4 * k + j : Nat) : Int) := fun j hj => by rw [wrap_i64 (by omega) (by omega)]; omega
    have e21 : IntKind.wrap .i64 (((4 * k : Nat) : Int) + 1) = ((4 * k + 1 : Nat) : Int) := e2 1 (by omega)
    have e22 : IntKind.wrap .i64 (((4 * k : Nat) : Int) + 2) = ((4 * k + 2 : Nat) : Int) := e2 2 (by omega)
    have e23 : IntKind.wrap .i64 (((4 * k : Nat) : Int) + 3) = ((4 * k + 3 : Nat) : Int) := e2 3 (by omega)
    rw [e1, e21, e22, e23]
    have hc3 := hr.cells.keep0 hS.chg
    refine ⟨fun w' => St w [] w' [.arr g1 99 (kv .u32 (List.replicate 64 0)), .arr g2 99 (kv .u32 (schedK l k))], hS.drew, ?_⟩
    refine ix0 hc3 hl (4 * k) (by omega) fun b0 o0 a0 q0 => ix0 hc3 hl (4 * k + 1) (by omega) fun b1 o1 a1 q1 => ix0 hc3 hl (4 * k + 2) (by omega) fun b2 o2 a2 q2 => ix0 hc3 hl (4 * k + 3) (by omega) fun b3 o3 a3 q3 => ?_
    have H : ∀ w', St w [] w' [.arr g1 99 (kv .u32 (List.replicate 64 0)), .arr g2 99 (kv .u32 (schedK l k))] → Cells w' a (bv l) := fun w' h => hr.cells.keep0 h.chg
    refine ⟨b0, o0, a0, by omega, by omega, b1, o1, a1, by omega, by omega, b2, o2, a2, by omega, by omega, b3, o3, a3, by omega, by omega, _, fun w' h => q0 w' (H w' h), _, fun w' h => q1 w' (H w' h), _, fun w' h => q2 w' (H w' h), _, fun w' h => q3 w' (H w' h), by omega, by omega, ?_⟩
    rw [be4_val _ _ _ _ (by exact (l.getD (4 * k) 0).toNat_lt) (by exact (l.getD (4 * k + 1) 0).toNat_lt) (by exact (l.getD (4 * k + 2) 0).toNat_lt) (by exact (l.getD (4 * k + 3) 0).toNat_lt)]
    obtain ⟨w4, r4, h4⟩ := hS.drew.stK (i := 1) (n := be4 l (4 * k)) rfl (uS _) (ze k) (by simp; omega)
    refine ⟨w4, r4, ⟨k + 1, wrap_succ hk' (by omega), by omega, ?_⟩, mu_succ hk' (by omega)⟩
    have : schedK l (k + 1) = (schedK l k).set k (be4 l (4 * k)) := by rw [schedK, if_pos hk']
    rw [this]; exact h4
  · have hk' : k = 16 := by simp at h; omega
    subst hk'
    refine ⟨fun x w' => ∃ k : Nat, x = (k : Int) ∧ 16 ≤ k ∧ k ≤ 64 ∧ St w [] w' [.arr g1 99 (kv .u32 (List.replicate 64 0)), .arr g2 99 (kv .u32 (schedK l k))], fun x _ => 64 - x.toNat, ⟨16, rfl, by omega, by omega, hS⟩, ?_⟩
    clear hS
    rintro x w5 ⟨k, rfl, hk16, hk, hS⟩
    refine ⟨fun h => ?_, fun h => ?_⟩
    · have hk' : k < 64 := by simp at h; omega
      have e : ∀ j : Nat, j ≤ 16 → IntKind.wrap .i64 ((k : Int) - (j : Int)) = ((k - j : Nat) : Int) := fun j hj => by rw [wrap_i64 (by omega) (by omega)]; omega
      have e15 : IntKind.wrap .i64 ((k : Int) - 15) = ((k - 15 : Nat) : Int) := e 15 (by omega)
      have e2 : IntKind.wrap .i64 ((k : Int) - 2) = ((k - 2 : Nat) : Int) := e 2 (by omega)
      have e7 : IntKind.wrap .i64 ((k : Int) - 7) = ((k - 7 : Nat) : Int) := e 7 (by omega)
      have e16 : IntKind.wrap .i64 ((k : Int) - 16) = ((k - 16 : Nat) : Int) := e 16 (by omega)
      rw [e15, e2, e7, e16]
      obtain ⟨W, hW⟩ : ∃ W, schedK l k = W := ⟨_, rfl⟩
      have hWl : W.length = 64 := by rw [← hW]; simp
      have hlt : Lt32 W := by rw [← hW]; exact schedK_lt l k
      have hnext : schedK l (k + 1) = W.set k (nextW W k) := by rw [schedK, if_neg (by omega), hW]
      rw [hW] at hS
      obtain ⟨Q, hQ⟩ : ∃ Q : World → Prop, Q = fun w' => St w [] w' [.arr g1 99 (kv .u32 (List.replicate 64 0)), .arr g2 99 (kv .u32 W)] := ⟨_, rfl⟩
      have hS' : Q w5 := by rw [hQ]; exact hS
      have hd : ∀ w', Q w' → Q w'.drew := fun w' h => by rw [hQ] at h ⊢; exact h.drew
      have ld : ∀ j : Nat, j < 64 → ∀ w', Q w' → (Instr.loadAt 98 (.pointer (some ⟨g2, 0 + Int.toNat (j : Int) * 1, none⟩))).run Tryd.prog w' = .ok (.int .u32 ((W.getD j 0 : Nat) : Int)) w' := fun j hj w' h => by
        rw [hQ] at h; exact h.ldK (i := 1) rfl (uA _) (ze j) (by omega)
      refine ⟨Q, hd _ hS', by omega, by omega, by omega, by omega, by omega, by omega, _, ld _ (by omega), _, ld _ (by omega), _, ld _ (by omega), (rotr_spec _ 7 _ (hlt _) (by decide) (by decide)).mono ?_⟩
      rintro e w6 ⟨rfl, rfl⟩
      refine ⟨_, rfl, Q, fun _ h => h, hd _ hS', (rotr_spec _ 18 _ (hlt _) (by decide) (by decide)).mono ?_⟩
      rintro e w7 ⟨rfl, rfl⟩
      refine ⟨_, rfl, Q, fun _ h => h, hd _ hS', Q, hd _ (hd _ hS'), by omega, by omega, by omega, by omega, by omega, by omega, _, ld _ (by omega), _, ld _ (by omega), _, ld _ (by omega), (rotr_spec _ 17 _ (hlt _) (by decide) (by decide)).mono ?_⟩
      rintro e w8 ⟨rfl, rfl⟩
      refine ⟨_, rfl, Q, fun _ h => h, hd _ (hd _ hS'), (rotr_spec _ 19 _ (hlt _) (by decide) (by decide)).mono ?_⟩
      rintro e w9 ⟨rfl, rfl⟩
      refine ⟨_, rfl, Q, fun _ h => h, hd _ (hd _ hS'), Q, hd _ (hd _ (hd _ hS')), by omega, by omega, by omega, by omega, _, ld _ (by omega), _, ld _ (by omega), by omega, by omega, ?_⟩
      rw [sg0_val (hlt _), sg1_val (hlt _), add_val, add_val, add_val]
      have h9 := hd _ (hd _ (hd _ hS'))
      rw [hQ] at h9
      obtain ⟨w10, r10, h10⟩ := h9.stK (i := 1) (n := nextW W k) rfl (uS _) (ze k) (by omega)
      refine ⟨w10, r10, ⟨k + 1, wrap_succ hk' (by omega), by omega, by omega, ?_⟩, mu_succ hk' (by omega)⟩
      rw [hnext]; exact h10
    · have hk' : k = 64 := by simp at h; omega
      subst hk'
      obtain ⟨W, hW⟩ : ∃ W, schedK l 64 = W := ⟨_, rfl⟩
      have hWl : W.length = 64 := by rw [← hW]; simp
      rw [hW] at hS ⊢
      obtain ⟨w6, r6, h6⟩ := hS.stA (i := 0) (v := kv .u32 W) rfl (w64S _) (by simp) (by simp [hWl]) (kv_one _ _)
      exact ⟨_, hS.ldA (i := 1) rfl (w64A _) (w64S _) (by simp [hWl]), w6, r6, _, h6.ldVarA (i := 0) rfl (w64A _) (w64S _) (by simp [hWl]), rfl, h6.chg⟩

theorem ixArr {P : Program} {w : World} {T e n i : Nat} {cs : List Value} {v : Value} (hT : P.underlying T = some (.array n e)) (hS : (sizeOf e).run P w = .ok 1 w) (hA : (isAgg e).run P w = .ok false w) (hi : i < n) (hv : cs[i]? = some v) :
    (Instr.index T (.agg cs.toArray) (.int .i64 (i : Int))).run P w = .ok v w := by
  have h1 : (0 : Int) ≤ (i : Int) ∧ (i : Int) < (n : Int) := by omega
  simp [Instr.index, asIntOf, run_underlying hT, hS, part, hA, hv, hi]

/-- A list that is replaced from the front. -/
def mixG {α : Type} (x l : List α) (i : Nat) : List α := x.take i ++ l.drop i
theorem mixG_zero {α : Type} (x l : List α) : mixG x l 0 = l := by simp [mixG]
theorem mixG_all {α : Type} {x l : List α} (h : x.length = l.length) : mixG x l l.length = x := by simp [mixG, ← h]
theorem mixG_len {α : Type} {x l : List α} {i : Nat} (h : x.length = l.length) (hi : i ≤ l.length) : (mixG x l i).length = l.length := by simp [mixG]; omega
theorem mixG_set {α : Type} {x l : List α} {i : Nat} {b : α} (h : x.length = l.length) (hb : x[i]? = some b) : (mixG x l i).set i b = mixG x l (i + 1) := by
  have hi : i < x.length := (List.getElem?_eq_some_iff.1 hb).1
  have hl : (x.take i).length = i := by rw [List.length_take]; omega
  rw [mixG, mixG, List.set_append_right _ _ (by omega), hl, Nat.sub_self, List.drop_eq_getElem_cons (by omega : i < l.length), List.set_cons_zero, List.take_add_one, hb]
  simp
theorem mixG_get {α : Type} {x l : List α} {i : Nat} (h : x.length = l.length) (hi : i < l.length) : (mixG x l i)[i]? = l[i]? := by
  rw [mixG, List.getElem?_append_right (by rw [List.length_take]; omega), List.length_take, Nat.min_eq_left (by omega), Nat.sub_self, List.getElem?_drop, Nat.add_zero]

theorem shaBlock_spec (g T : Nat) (h : List Nat) (t : List Value) (a : Option Addr) (n c : Nat) (l : List UInt8) (w : World) (hK : KTab w) (hg : w.heap[g]? = some (.cells (kv .u32 h ++ t).toArray T)) (hh : h.length = 8) (hlt : Lt32 h) (hr : RdB w a n c l) (hn : n = 64) :
    Calls Tryd.prog 64 #[.pointer (some ⟨g, 0, none⟩), .slice a n c] w fun e w' => e = .returned (.tuple #[]) ∧ Chg [g] w w' ∧ w'.heap[g]? = some (.cells (kv .u32 (compress h l) ++ t).toArray T) := by
  apply sha_state_block_vc
  refine (schedule_spec a n c l w hr hn).mono ?_
  rintro e w1 ⟨rfl, hc1⟩
  obtain ⟨W, hW⟩ : ∃ W, schedK l 64 = W := ⟨_, rfl⟩
  have hWl : W.length = 64 := by rw [← hW]; exact schedK_len l 64
  obtain ⟨V, hV⟩ : ∃ V, rounds W h 64 = V := ⟨_, rfl⟩
  have hcomp : compress h l = List.zipWith add32 h V := by rw [compress, hW, hV]
  rw [hcomp]
  rw [hW]
  have ze : ∀ k : Nat, 0 + Int.toNat (k : Int) * 1 = k := fun k => by omega
  have hS0 : St w [g] w1 [.arr g T (kv .u32 h ++ t)] := (St.ofBlk (w := w) hg).same hc1
  obtain ⟨g2, w2, r2, h2⟩ := hS0.zeroA w64Z
  obtain ⟨w3, r3, h3⟩ := h2.stA (i := 1) (v := kv .u32 W) rfl (w64S _) (by simp) (by simp [hWl]) (kv_one _ _)
  have hget : ∀ (x : List Nat), x.length = 8 → ∀ j, j < 8 → (kv .u32 x ++ t)[j]? = some (.int .u32 ((x.getD j 0 : Nat) : Int)) := fun x hx j hj => by
    rw [List.getElem?_append_left (by simp; omega), kv_get (by omega)]
  have hk3 : KTab w3.drew := (hK.keep0 hc1).keep0 ((Chg.drew [] w3).trans (Chg.refl _ _) |> fun c => by
    have hc : Chg [] w1 w3 := by
      obtain ⟨g2', w2', r2', h2'⟩ := (St.start w1).zeroA w64Z
      have e1 := r2.symm.trans r2'
      simp only [Result.ok.injEq, Value.pointer.injEq, Option.some.injEq, Addr.mk.injEq, and_true, true_and] at e1
      obtain ⟨rfl, rfl⟩ := e1
      obtain ⟨w3', r3', h3'⟩ := h2'.stA (i := 0) (v := kv .u32 W) rfl (w64S _) (by simp) (by simp [hWl]) (kv_one _ _)
      have e2 := r3.symm.trans r3'
      simp only [Result.ok.injEq, true_and] at e2
      obtain rfl := e2
      exact h3'.chg
    exact hc.trans c)
  have h3d := h3.drew
  have hQ0 := h3d
  obtain ⟨Q, hQ⟩ : ∃ Q : World → Prop, Q = fun w' => St w [g] w' [.arr g T (kv .u32 h ++ t), .arr g2 99 (kv .u32 W)] ∧ KTab w' := ⟨_, rfl⟩
  have hQ3 : Q w3.drew := by rw [hQ]; exact ⟨h3d, hk3⟩
  have hd : ∀ w', Q w' → Q w'.drew := fun w' h => by rw [hQ] at h ⊢; exact ⟨h.1.drew, h.2.keep0 (Chg.drew _ _)⟩
  have ldh : ∀ j : Nat, j < 8 → ∀ off, off = j → ∀ w', Q w' → (Instr.loadAt 98 (.pointer (some ⟨g, off, none⟩))).run Tryd.prog w' = .ok (.int .u32 ((h.getD j 0 : Nat) : Int)) w' := fun j hj off ho w' hq => by
    rw [hQ] at hq; exact hq.1.ldL (i := 0) rfl (uA _) ho (hget h hh j hj)
  have ldw : ∀ j : Nat, j < 64 → ∀ w', Q w' → (Instr.loadAt 98 (.pointer (some ⟨g2, 0 + Int.toNat (j : Int) * 1, none⟩))).run Tryd.prog w' = .ok (.int .u32 ((W.getD j 0 : Nat) : Int)) w' := fun j hj w' hq => by
    rw [hQ] at hq; exact hq.1.ldK (i := 1) rfl (uA _) (ze j) (by omega)
  have ldk : ∀ j : Nat, j < 64 → ∀ w', Q w' → (Instr.loadAt 98 (.pointer (some ⟨0, 0 + Int.toNat (j : Int) * 1, none⟩))).run Tryd.prog w' = .ok (.int .u32 ((kTab.getD j 0 : Nat) : Int)) w' := fun j hj w' hq => by
    rw [hQ] at hq
    have := hq.2 j _ (kv_get (k := .u32) (l := kTab) (by rw [kTab_len]; exact hj))
    rw [show 0 + Int.toNat (j : Int) * 1 = 0 + j by omega]
    exact ld1 (uA _) this
  refine ⟨_, rfl, _, _, r2, w3, r3, Q, hQ3, _, ldh 0 (by decide) _ rfl, _, ldh 1 (by decide) _ rfl, _, ldh 2 (by decide) _ rfl, _, ldh 3 (by decide) _ rfl, _, ldh 4 (by decide) _ rfl, _, ldh 5 (by decide) _ rfl, _, ldh 6 (by decide) _ rfl, _, ldh 7 (by decide) _ rfl, ?_⟩
  refine ⟨fun x0 x1 x2 x3 x4 x5 x6 x7 y w' => ∃ k : Nat, y = (k : Int) ∧ k ≤ 64 ∧ Q w' ∧ ∃ v : List Nat, rounds W h k = v ∧ x0 = ((v.getD 0 0 : Nat) : Int) ∧ x1 = ((v.getD 1 0 : Nat) : Int) ∧ x2 = ((v.getD 2 0 : Nat) : Int) ∧ x3 = ((v.getD 3 0 : Nat) : Int) ∧ x4 = ((v.getD 4 0 : Nat) : Int) ∧ x5 = ((v.getD 5 0 : Nat) : Int) ∧ x6 = ((v.getD 6 0 : Nat) : Int) ∧ x7 = ((v.getD 7 0 : Nat) : Int),
    fun _ _ _ _ _ _ _ _ y _ => 64 - y.toNat, ⟨0, rfl, by omega, hQ3, h, rfl, rfl, rfl, rfl, rfl, rfl, rfl, rfl, rfl⟩, ?_⟩
  rintro x0 x1 x2 x3 x4 x5 x6 x7 y w4 ⟨k, rfl, hk, hq, v, hv, rfl, rfl, rfl, rfl, rfl, rfl, rfl, rfl⟩
  have hvlt : Lt32 v := by rw [← hv]; exact rounds_lt W hlt k
  have hvl : v.length = 8 := by rw [← hv]; exact rounds_len W hh k
  refine ⟨fun hc => ?_, fun hc => ?_⟩
  · have hk' : k < 64 := by simp at hc; omega
    refine ⟨Q, hd _ hq, by omega, by omega, by omega, by omega, _, ldk k hk', _, ldw k hk', (rotr_spec _ 6 _ (hvlt _) (by decide) (by decide)).mono ?_⟩
    rintro e w5 ⟨rfl, rfl⟩
    refine ⟨_, rfl, Q, fun _ h => h, hd _ hq, (rotr_spec _ 11 _ (hvlt _) (by decide) (by decide)).mono ?_⟩
    rintro e w6 ⟨rfl, rfl⟩
    refine ⟨_, rfl, Q, fun _ h => h, hd _ hq, (rotr_spec _ 25 _ (hvlt _) (by decide) (by decide)).mono ?_⟩
    rintro e w7 ⟨rfl, rfl⟩
    refine ⟨_, rfl, Q, fun _ h => h, hd _ hq, (rotr_spec _ 2 _ (hvlt _) (by decide) (by decide)).mono ?_⟩
    rintro e w8 ⟨rfl, rfl⟩
    refine ⟨_, rfl, (rotr_spec _ 13 _ (hvlt _) (by decide) (by decide)).mono ?_⟩
    rintro e w9 ⟨rfl, rfl⟩
    refine ⟨_, rfl, (rotr_spec _ 22 _ (hvlt _) (by decide) (by decide)).mono ?_⟩
    rintro e w10 ⟨rfl, rfl⟩
    refine ⟨_, rfl, ?_⟩
    rw [bg1_val (hvlt _), bg0_val (hvlt _), ch_val (hvlt _) (hvlt _) (hvlt _), maj_val (hvlt _) (hvlt _) (hvlt _)]
    simp only [add_val]
    refine ⟨⟨k + 1, wrap_succ hk' (by omega), by omega, hd _ hq, roundL (kTab.getD k 0) (W.getD k 0) v, by rw [rounds, hv], ?_⟩, mu_succ hk' (by omega)⟩
    obtain ⟨q1, q2, q3, q5, q6, q7⟩ := roundL_gs (kTab.getD k 0) (W.getD k 0) v
    rw [roundL_g0, roundL_g4, q1, q2, q3, q5, q6, q7]
    exact ⟨rfl, rfl, rfl, rfl, rfl, rfl, rfl, rfl⟩
  · have hk' : k = 64 := by simp at hc; omega
    have hvV : v = V := by rw [← hv, hk', hV]
    rw [← hvV]
    clear hv hV hcomp hvV
    obtain ⟨Z, hZ⟩ : ∃ Z, List.zipWith add32 h v = Z := ⟨_, rfl⟩
    have hZl : Z.length = 8 := by rw [← hZ]; exact zip_len hh hvl
    have hZg : ∀ j, j < 8 → Z[j]? = some (add32 (h.getD j 0) (v.getD j 0)) := fun j hj => by rw [← hZ]; exact zip_get hh hvl hj
    rw [hZ]
    rw [hQ] at hq
    have hv8 : v = [v.getD 0 0, v.getD 1 0, v.getD 2 0, v.getD 3 0, v.getD 4 0, v.getD 5 0, v.getD 6 0, v.getD 7 0] := by
      match v, hvl with
      | [_, _, _, _, _, _, _, _], _ => rfl
    have hb : (Instr.build 100 (((kv .u32 [v.getD 0 0, v.getD 1 0, v.getD 2 0, v.getD 3 0, v.getD 4 0, v.getD 5 0, v.getD 6 0, v.getD 7 0]).zipIdx 0).map fun p => (p.2, p.1)).toArray).run Tryd.prog w4 = .ok (.agg (kv .u32 v).toArray) w4 := by
      have := build_arr (P := Tryd.prog) (w := w4) (w8Z w4) Tryd.underlying100 (uS _) (kv .u32 [v.getD 0 0, v.getD 1 0, v.getD 2 0, v.getD 3 0, v.getD 4 0, v.getD 5 0, v.getD 6 0, v.getD 7 0]) (kv_one _ _) (by simp)
      have e : kv .u32 [v.getD 0 0, v.getD 1 0, v.getD 2 0, v.getD 3 0, v.getD 4 0, v.getD 5 0, v.getD 6 0, v.getD 7 0] ++ (kv .u32 (List.replicate 8 0)).drop (kv .u32 [v.getD 0 0, v.getD 1 0, v.getD 2 0, v.getD 3 0, v.getD 4 0, v.getD 5 0, v.getD 6 0, v.getD 7 0]).length = kv .u32 v := by
        rw [List.drop_of_length_le (by simp), List.append_nil, ← hv8]
      rw [e] at this
      exact this
    refine ⟨_, hb, fun x w' => ∃ j : Nat, x = (j : Int) ∧ j ≤ 8 ∧ St w [g] w' [.arr g T (kv .u32 (mixG Z h j) ++ t), .arr g2 99 (kv .u32 W)], fun x _ => 8 - x.toNat, ⟨0, rfl, by omega, by rw [mixG_zero]; exact hq.1⟩, ?_⟩
    rintro x w11 ⟨j, rfl, hj, hS⟩
    have hml : (mixG Z h j).length = 8 := by rw [mixG_len (by omega) (by omega)]; exact hh
    refine ⟨fun hc => ?_, fun hc => ?_⟩
    · have hj' : j < 8 := by simp at hc; omega
      have hgj : (kv .u32 (mixG Z h j) ++ t)[j]? = some (.int .u32 ((h.getD j 0 : Nat) : Int)) := by
        rw [hget _ hml j hj']
        simp only [List.getD, mixG_get (show Z.length = h.length by omega) (show j < h.length by omega)]
      obtain ⟨w12, r12, h12⟩ := hS.drew.stL (i := 0) (v := .int .u32 ((add32 (h.getD j 0) (v.getD j 0) : Nat) : Int)) rfl (uS _) (ze j) (by simp [hml]; omega) rfl
      refine ⟨_, ixArr (cs := kv .u32 v) Tryd.underlying100 (uS _) (uA _) hj' (kv_get (by omega)), fun w' => St w [g] w' [.arr g T (kv .u32 (mixG Z h j) ++ t), .arr g2 99 (kv .u32 W)], hS.drew, by omega, by omega, _, fun w' h => h.ldL (i := 0) rfl (uA _) (ze j) hgj, by omega, by omega, w12, ?_, ⟨j + 1, wrap_succ hj' (by omega), by omega, ?_⟩, mu_succ hj' (by omega)⟩
      · rw [add_val]; exact r12
      · have : (kv .u32 (mixG Z h j) ++ t).set j (.int .u32 ((add32 (h.getD j 0) (v.getD j 0) : Nat) : Int)) = kv .u32 (mixG Z h (j + 1)) ++ t := by
          rw [List.set_append_left _ _ (by simp [hml]; omega), kv_set, mixG_set (by omega) (hZg j hj')]
        rw [← this]; exact h12
    · have hj' : j = 8 := by simp at hc; omega
      subst hj'
      have : mixG Z h 8 = Z := by have := mixG_all (x := Z) (l := h) (by omega); rwa [hh] at this
      rw [this] at hS
      exact ⟨rfl, hS.chg, hS.holds 0 _ rfl⟩

end Go.Proofs.YtefnlbgkfingfaaDoor
