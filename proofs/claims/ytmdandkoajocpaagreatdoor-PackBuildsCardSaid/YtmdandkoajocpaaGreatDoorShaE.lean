/- Contracts, several texts in one (conditions: those that each theorem names). -/
import Derived.Test.YtmdandkoajocpaaGreatDoorShaF
import Derived.Test.YtmdandkoajocpaaGreatDoorVsha
import Derived.Test.YtmdandkoajocpaaGreatDoorVnum
import Derived.Test.YtmdandkoajocpaaGreatDoorClone
import Derived.Test.YtmdandkoajocpaaGreatDoorNum
import Derived.Test.YtmdandkoajocpaaGreatDoorSum
namespace Go.Proofs.YtmdandkoajocpaaGreatDoor
open Go Sx
set_option maxRecDepth 8000

theorem uA (w : World) : (isAgg 209).run Tryz.prog w = .ok false w := Tryz.isAgg209 w
theorem uS (w : World) : (sizeOf 209).run Tryz.prog w = .ok 1 w := Tryz.sizeOf209 w
theorem w64A (w : World) : (isAgg 232).run Tryz.prog w = .ok true w := Tryz.isAgg232 w
theorem w64S (w : World) : (sizeOf 232).run Tryz.prog w = .ok 64 w := Tryz.sizeOf232 w
theorem w8A (w : World) : (isAgg 233).run Tryz.prog w = .ok true w := Tryz.isAgg233 w
theorem w8S (w : World) : (sizeOf 233).run Tryz.prog w = .ok 8 w := Tryz.sizeOf233 w
theorem w64Z (w : World) : (zeroValue 232).run Tryz.prog w = .ok (.agg (kv .u32 (List.replicate 64 0)).toArray) w := Tryz.zeroValue232 w
theorem w8Z (w : World) : (zeroValue 233).run Tryz.prog w = .ok (.agg (kv .u32 (List.replicate 8 0)).toArray) w := Tryz.zeroValue233 w

/-- The table of the package lies where the program laid it. -/
def KTab (w : World) : Prop := w.rangeAt 5 0 (kv .u32 kTab)

theorem KTab.keep0 {w w' : World} (h : KTab w) (hc : Chg [] w w') : KTab w' := fun j v hj => by
  have h1 := h j v hj
  rw [← h1]
  exact World.cell?_of_block (hc.block _ (World.block_lt_of_cell? w _ h1) (by simp))
theorem KTab.lt {w : World} (h : KTab w) : 5 < w.heap.size := World.block_lt_of_cell? w ⟨5, 0 + 0, none⟩ (h 0 (.int .u32 1116352408) rfl)
theorem KTab.keep {w w' : World} {X : List Nat} (h : KTab w) (hc : Chg X w w') (hX : 5 ∉ X) : KTab w' := fun j v hj => by
  have h1 := h j v hj
  rw [← h1]
  exact World.cell?_of_block (hc.block _ (World.block_lt_of_cell? w _ h1) hX)

theorem and_val {a b : Nat} (ha : a < 4294967296) (hb : b < 4294967296) : band .u32 (a : Int) (b : Int) = ((a &&& b : Nat) : Int) := band_nat rfl (by simpa [kmod, IntKind.bits] using ha) (by simpa [kmod, IntKind.bits] using hb)
theorem not_val {a : Nat} (ha : a < 4294967296) : bxor .u32 (IntKind.max .u32) (a : Int) = ((4294967295 ^^^ a : Nat) : Int) := by
  rw [show (IntKind.max .u32) = ((4294967295 : Nat) : Int) by decide]
  exact xor_val (by decide) ha
theorem shr_val (x n : Nat) (h : n ≤ 32) : shrI .u32 (x : Int) ((n : Nat) : Int) = ((x / 2 ^ n : Nat) : Int) := shr_nat _ _ _ h

theorem rotr_spec (x n : Nat) (w : World) (hx : x < 4294967296) (hn : n < 32) (h0 : 0 < n) : Calls Tryz.prog 191 #[.int .u32 (x : Int), .int .i64 (n : Int)] w fun e w' => e = .returned (.int .u32 ((rotr x n : Nat) : Int)) ∧ w' = w := by
  apply sha_rotr_vc
  apply bits_RotateLeft32_vc
  have h1 : band .u64 (IntKind.wrap .u64 (IntKind.wrap .i64 (0 - (n : Int)))) 31 = ((32 - n : Nat) : Int) := by
    have e : IntKind.wrap .u64 (IntKind.wrap .i64 (0 - (n : Int))) = ((18446744073709551616 - n : Nat) : Int) := by rw [wrap_i64 (by omega) (by omega), wrap_u64]; omega
    rw [e, show (31 : Int) = ((31 : Nat) : Int) from rfl, band_nat rfl (by simp [kmod, IntKind.bits]; omega) (by simp [kmod, IntKind.bits]), show (18446744073709551616 - n) &&& 31 = (18446744073709551616 - n) % 32 from Nat.and_two_pow_sub_one_eq_mod _ 5]
    omega
  have h2 : IntKind.wrap .u64 ((32 : Int) - ((32 - n : Nat) : Int)) = ((n : Nat) : Int) := by rw [wrap_u64]; omega
  rw [h1, h2]
  refine ⟨by omega, by omega, _, rfl, ?_, rfl⟩
  rw [shl_val (show 32 - n ≤ 32 by omega), shr_val _ _ (by omega), or_val (Nat.mod_lt _ (by decide)) (shr_lt _ hx)]
  rfl

theorem sg0_val {x : Nat} (h : x < 4294967296) : bxor .u32 (bxor .u32 ((rotr x 7 : Nat) : Int) ((rotr x 18 : Nat) : Int)) (shrI .u32 (x : Int) 3) = ((sg0 x : Nat) : Int) := by
  rw [show (3 : Int) = ((3 : Nat) : Int) from rfl, shr_val _ _ (by decide), xor_val (rotr_lt _ h) (rotr_lt _ h), xor_val (xor_lt (rotr_lt _ h) (rotr_lt _ h)) (shr_lt _ h)]; rfl
theorem sg1_val {x : Nat} (h : x < 4294967296) : bxor .u32 (bxor .u32 ((rotr x 17 : Nat) : Int) ((rotr x 19 : Nat) : Int)) (shrI .u32 (x : Int) 10) = ((sg1 x : Nat) : Int) := by
  rw [show (10 : Int) = ((10 : Nat) : Int) from rfl, shr_val _ _ (by decide), xor_val (rotr_lt _ h) (rotr_lt _ h), xor_val (xor_lt (rotr_lt _ h) (rotr_lt _ h)) (shr_lt _ h)]; rfl
theorem bg0_val {x : Nat} (h : x < 4294967296) : bxor .u32 (bxor .u32 ((rotr x 2 : Nat) : Int) ((rotr x 13 : Nat) : Int)) ((rotr x 22 : Nat) : Int) = ((bg0 x : Nat) : Int) := by
  rw [xor_val (rotr_lt _ h) (rotr_lt _ h), xor_val (xor_lt (rotr_lt _ h) (rotr_lt _ h)) (rotr_lt _ h)]; rfl
theorem bg1_val {x : Nat} (h : x < 4294967296) : bxor .u32 (bxor .u32 ((rotr x 6 : Nat) : Int) ((rotr x 11 : Nat) : Int)) ((rotr x 25 : Nat) : Int) = ((bg1 x : Nat) : Int) := by
  rw [xor_val (rotr_lt _ h) (rotr_lt _ h), xor_val (xor_lt (rotr_lt _ h) (rotr_lt _ h)) (rotr_lt _ h)]; rfl
theorem ch_val {e f g : Nat} (he : e < 4294967296) (hf : f < 4294967296) (hg : g < 4294967296) : bxor .u32 (band .u32 (e : Int) (f : Int)) (band .u32 (bxor .u32 (IntKind.max .u32) (e : Int)) (g : Int)) = ((chF e f g : Nat) : Int) := by
  rw [not_val he, and_val he hf, and_val (xor_lt (by decide) he) hg, xor_val (and_lt _ he) (and_lt _ (xor_lt (by decide) he))]; rfl
theorem maj_val {a b c : Nat} (ha : a < 4294967296) (hb : b < 4294967296) (hc : c < 4294967296) : bxor .u32 (bxor .u32 (band .u32 (a : Int) (b : Int)) (band .u32 (a : Int) (c : Int))) (band .u32 (b : Int) (c : Int)) = ((majF a b c : Nat) : Int) := by
  rw [and_val ha hb, and_val ha hc, and_val hb hc, xor_val (and_lt _ ha) (and_lt _ ha), xor_val (xor_lt (and_lt _ ha) (and_lt _ ha)) (and_lt _ hb)]; rfl

theorem be4_val (b0 b1 b2 b3 : Nat) (h0 : b0 < 256) (h1 : b1 < 256) (h2 : b2 < 256) (h3 : b3 < 256) :
    bor .u32 (bor .u32 (bor .u32 (shlI .u32 (IntKind.wrap .u32 (b0 : Int)) 24) (shlI .u32 (IntKind.wrap .u32 (b1 : Int)) 16)) (shlI .u32 (IntKind.wrap .u32 (b2 : Int)) 8)) (IntKind.wrap .u32 (b3 : Int)) = ((((b0 * 256 + b1) * 256 + b2) * 256 + b3 : Nat) : Int) := by
  rw [wrap_u32_nat (show b0 < 4294967296 by omega), wrap_u32_nat (show b1 < 4294967296 by omega), wrap_u32_nat (show b2 < 4294967296 by omega), wrap_u32_nat (show b3 < 4294967296 by omega),
    show (24 : Int) = ((24 : Nat) : Int) from rfl, show (16 : Int) = ((16 : Nat) : Int) from rfl, show (8 : Int) = ((8 : Nat) : Int) from rfl, shl_val (by decide), shl_val (by decide), shl_val (by decide),
    Nat.mod_eq_of_lt (show b0 * 2 ^ 24 < 4294967296 by omega), Nat.mod_eq_of_lt (show b1 * 2 ^ 16 < 4294967296 by omega), Nat.mod_eq_of_lt (show b2 * 2 ^ 8 < 4294967296 by omega),
    or_val (by omega) (by omega), or_sum _ _ 24 (by omega), show b0 * 2 ^ 24 + b1 * 2 ^ 16 = (b0 * 256 + b1) * 2 ^ 16 by omega, or_val (by omega) (by omega), or_sum _ _ 16 (by omega), show (b0 * 256 + b1) * 2 ^ 16 + b2 * 2 ^ 8 = ((b0 * 256 + b1) * 256 + b2) * 2 ^ 8 by omega, or_val (by omega) (by omega), or_sum _ _ 8 (by omega)]

theorem schedule_spec (a : Option Addr) (n c : Nat) (l : List UInt8) (w : World) (hr : RdB w a n c l) (hn : n = 64) :
    Calls Tryz.prog 190 #[.slice a n c] w fun e w' => e = .returned (.agg (kv .u32 (schedK l 64)).toArray) ∧ Chg [] w w' := by
  have hl := hr.lenB
  apply sha_schedule_vc
  obtain ⟨g1, w1, r1, h1⟩ := (St.start w).zeroA w64Z
  obtain ⟨g2, w2, r2, h2⟩ := h1.zeroA w64Z
  have ze : ∀ k : Nat, 0 + Int.toNat (k : Int) * 1 = k := fun k => by omega
  refine ⟨_, _, r1, _, _, r2, fun x w' => ∃ k : Nat, x = (k : Int) ∧ k ≤ 16 ∧ St w [] w' [.arr g1 232 (kv .u32 (List.replicate 64 0)), .arr g2 232 (kv .u32 (schedK l k))], fun x _ => 16 - x.toNat, ⟨0, rfl, by omega, h2⟩, ?_⟩
  rintro x w3 ⟨k, rfl, hk, hS⟩
  refine ⟨fun h => ?_, fun h => ?_⟩
  · have hk' : k < 16 := by simp at h; omega
    have e1 : IntKind.wrap .i64 ((4 : Int) * (k : Int)) = ((4 * k : Nat) : Int) := by rw [wrap_i64 (by omega) (by omega)]; omega
    have e2 : ∀ j : Nat, j < 4 → IntKind.wrap .i64 (((4 * k : Nat) : Int) + (j : Int)) = ((4 * k + j : Nat) : Int) := fun j hj => by rw [wrap_i64 (by omega) (by omega)]; omega
    have e21 : IntKind.wrap .i64 (((4 * k : Nat) : Int) + 1) = ((4 * k + 1 : Nat) : Int) := e2 1 (by omega)
    have e22 : IntKind.wrap .i64 (((4 * k : Nat) : Int) + 2) = ((4 * k + 2 : Nat) : Int) := e2 2 (by omega)
    have e23 : IntKind.wrap .i64 (((4 * k : Nat) : Int) + 3) = ((4 * k + 3 : Nat) : Int) := e2 3 (by omega)
    rw [e1, e21, e22, e23]
    have hc3 := hr.cells.keep0 hS.chg
    refine ⟨fun w' => St w [] w' [.arr g1 232 (kv .u32 (List.replicate 64 0)), .arr g2 232 (kv .u32 (schedK l k))], hS.drew, ?_⟩
    refine ix0 hc3 hl (4 * k) (by omega) fun b0 o0 a0 q0 => ix0 hc3 hl (4 * k + 1) (by omega) fun b1 o1 a1 q1 => ix0 hc3 hl (4 * k + 2) (by omega) fun b2 o2 a2 q2 => ix0 hc3 hl (4 * k + 3) (by omega) fun b3 o3 a3 q3 => ?_
    have H : ∀ w', St w [] w' [.arr g1 232 (kv .u32 (List.replicate 64 0)), .arr g2 232 (kv .u32 (schedK l k))] → Cells w' a (bv l) := fun w' h => hr.cells.keep0 h.chg
    refine ⟨b0, o0, a0, by omega, by omega, b1, o1, a1, by omega, by omega, b2, o2, a2, by omega, by omega, b3, o3, a3, by omega, by omega, _, fun w' h => q0 w' (H w' h), _, fun w' h => q1 w' (H w' h), _, fun w' h => q2 w' (H w' h), _, fun w' h => q3 w' (H w' h), by omega, by omega, ?_⟩
    rw [be4_val _ _ _ _ (by exact (l.getD (4 * k) 0).toNat_lt) (by exact (l.getD (4 * k + 1) 0).toNat_lt) (by exact (l.getD (4 * k + 2) 0).toNat_lt) (by exact (l.getD (4 * k + 3) 0).toNat_lt)]
    obtain ⟨w4, r4, h4⟩ := hS.drew.stK (i := 1) (n := be4 l (4 * k)) rfl (uS _) (ze k) (by simp; omega)
    refine ⟨w4, r4, ⟨k + 1, wrap_succ hk' (by omega), by omega, ?_⟩, mu_succ hk' (by omega)⟩
    have : schedK l (k + 1) = (schedK l k).set k (be4 l (4 * k)) := by rw [schedK, if_pos hk']
    rw [this]; exact h4
  · have hk' : k = 16 := by simp at h; omega
    subst hk'
    refine ⟨fun x w' => ∃ k : Nat, x = (k : Int) ∧ 16 ≤ k ∧ k ≤ 64 ∧ St w [] w' [.arr g1 232 (kv .u32 (List.replicate 64 0)), .arr g2 232 (kv .u32 (schedK l k))], fun x _ => 64 - x.toNat, ⟨16, rfl, by omega, by omega, hS⟩, ?_⟩
    clear hS
    rintro x w5 ⟨k, rfl, hk16, hk, hS⟩
    refine ⟨fun h => ?_, fun h => ?_⟩
    · have hk' : k < 64 := by simp at h; omega
      have e : ∀ j : Nat, j ≤ 16 → IntKind.wrap .i64 ((k : Int) - (j : Int)) = ((k - j : Nat) : Int) := fun j hj => by rw [wrap_i64 (by omega) (by omega)]; omega
      have e15 : IntKind.wrap .i64 ((k : Int) - 15) = ((k - 15 : Nat) : Int) := e 15 (by omega)
      have e2 : IntKind.wrap .i64 ((k : Int) - 2) = ((k - 2 : Nat) : Int) := e 2 (by omega)
      have e7 : IntKind.wrap .i64 ((k : Int) - 7) = ((k - 7 : Nat) : Int) := e 7 (by omega)
      have e16 : IntKind.wrap .i64 ((k : Int) - 16) = ((k - 16 : Nat) : Int) := e 16 (by omega)
      rw [e15, e2, e7, e16]
      obtain ⟨W, hW⟩ : ∃ W, schedK l k = W := ⟨_, rfl⟩
      have hWl : W.length = 64 := by rw [← hW]; simp
      have hlt : Lt32 W := by rw [← hW]; exact schedK_lt l k
      have hnext : schedK l (k + 1) = W.set k (nextW W k) := by rw [schedK, if_neg (by omega), hW]
      rw [hW] at hS
      obtain ⟨Q, hQ⟩ : ∃ Q : World → Prop, Q = fun w' => St w [] w' [.arr g1 232 (kv .u32 (List.replicate 64 0)), .arr g2 232 (kv .u32 W)] := ⟨_, rfl⟩
      have hS' : Q w5 := by rw [hQ]; exact hS
      have hd : ∀ w', Q w' → Q w'.drew := fun w' h => by rw [hQ] at h ⊢; exact h.drew
      have ld : ∀ j : Nat, j < 64 → ∀ w', Q w' → (Instr.loadAt 209 (.pointer (some ⟨g2, 0 + Int.toNat (j : Int) * 1, none⟩))).run Tryz.prog w' = .ok (.int .u32 ((W.getD j 0 : Nat) : Int)) w' := fun j hj w' h => by
        rw [hQ] at h; exact h.ldK (i := 1) rfl (uA _) (ze j) (by omega)
      refine ⟨Q, hd _ hS', by omega, by omega, by omega, by omega, by omega, by omega, _, ld _ (by omega), _, ld _ (by omega), _, ld _ (by omega), (rotr_spec _ 7 _ (hlt _) (by decide) (by decide)).mono ?_⟩
      rintro e w6 ⟨rfl, rfl⟩
      refine ⟨_, rfl, Q, fun _ h => h, hd _ hS', (rotr_spec _ 18 _ (hlt _) (by decide) (by decide)).mono ?_⟩
      rintro e w7 ⟨rfl, rfl⟩
      refine ⟨_, rfl, Q, fun _ h => h, hd _ hS', Q, hd _ (hd _ hS'), by omega, by omega, by omega, by omega, by omega, by omega, _, ld _ (by omega), _, ld _ (by omega), _, ld _ (by omega), (rotr_spec _ 17 _ (hlt _) (by decide) (by decide)).mono ?_⟩
      rintro e w8 ⟨rfl, rfl⟩
      refine ⟨_, rfl, Q, fun _ h => h, hd _ (hd _ hS'), (rotr_spec _ 19 _ (hlt _) (by decide) (by decide)).mono ?_⟩
      rintro e w9 ⟨rfl, rfl⟩
      refine ⟨_, rfl, Q, fun _ h => h, hd _ (hd _ hS'), Q, hd _ (hd _ (hd _ hS')), by omega, by omega, by omega, by omega, _, ld _ (by omega), _, ld _ (by omega), by omega, by omega, ?_⟩
      rw [sg0_val (hlt _), sg1_val (hlt _), add_val, add_val, add_val]
      have h9 := hd _ (hd _ (hd _ hS'))
      rw [hQ] at h9
      obtain ⟨w10, r10, h10⟩ := h9.stK (i := 1) (n := nextW W k) rfl (uS _) (ze k) (by omega)
      refine ⟨w10, r10, ⟨k + 1, wrap_succ hk' (by omega), by omega, by omega, ?_⟩, mu_succ hk' (by omega)⟩
      rw [hnext]; exact h10
    · have hk' : k = 64 := by simp at h; omega
      subst hk'
      obtain ⟨W, hW⟩ : ∃ W, schedK l 64 = W := ⟨_, rfl⟩
      have hWl : W.length = 64 := by rw [← hW]; simp
      rw [hW] at hS ⊢
      obtain ⟨w6, r6, h6⟩ := hS.stA (i := 0) (v := kv .u32 W) rfl (w64S _) (by simp) (by simp [hWl]) (kv_one _ _)
      exact ⟨_, hS.ldA (i := 1) rfl (w64A _) (w64S _) (by simp [hWl]), w6, r6, _, h6.ldVarA (i := 0) rfl (w64A _) (w64S _) (by simp [hWl]), rfl, h6.chg⟩

theorem ixArr {P : Program} {w : World} {T e n i : Nat} {cs : List Value} {v : Value} (hT : P.underlying T = some (.array n e)) (hS : (sizeOf e).run P w = .ok 1 w) (hA : (isAgg e).run P w = .ok false w) (hi : i < n) (hv : cs[i]? = some v) :
    (Instr.index T (.agg cs.toArray) (.int .i64 (i : Int))).run P w = .ok v w := by
  have h1 : (0 : Int) ≤ (i : Int) ∧ (i : Int) < (n : Int) := by omega
  simp [Instr.index, asIntOf, run_underlying hT, hS, part, hA, hv, hi]

/-- A list that is replaced from the front. -/
def mixG {α : Type} (x l : List α) (i : Nat) : List α := x.take i ++ l.drop i
theorem mixG_zero {α : Type} (x l : List α) : mixG x l 0 = l := by simp [mixG]
theorem mixG_all {α : Type} {x l : List α} (h : x.length = l.length) : mixG x l l.length = x := by simp [mixG, ← h]
theorem mixG_len {α : Type} {x l : List α} {i : Nat} (h : x.length = l.length) (hi : i ≤ l.length) : (mixG x l i).length = l.length := by simp [mixG]; omega
theorem mixG_set {α : Type} {x l : List α} {i : Nat} {b : α} (h : x.length = l.length) (hb : x[i]? = some b) : (mixG x l i).set i b = mixG x l (i + 1) := by
  have hi : i < x.length := (List.getElem?_eq_some_iff.1 hb).1
  have hl : (x.take i).length = i := by rw [List.length_take]; omega
  rw [mixG, mixG, List.set_append_right _ _ (by omega), hl, Nat.sub_self, List.drop_eq_getElem_cons (by omega : i < l.length), List.set_cons_zero, List.take_add_one, hb]
  simp
theorem mixG_get {α : Type} {x l : List α} {i : Nat} (h : x.length = l.length) (hi : i < l.length) : (mixG x l i)[i]? = l[i]? := by
  rw [mixG, List.getElem?_append_right (by rw [List.length_take]; omega), List.length_take, Nat.min_eq_left (by omega), Nat.sub_self, List.getElem?_drop, Nat.add_zero]

theorem shaBlock_spec (g T : Nat) (h : List Nat) (t : List Value) (a : Option Addr) (n c : Nat) (l : List UInt8) (w : World) (hK : KTab w) (hg : w.heap[g]? = some (.cells (kv .u32 h ++ t).toArray T)) (hh : h.length = 8) (hlt : Lt32 h) (hr : RdB w a n c l) (hn : n = 64) :
    Calls Tryz.prog 187 #[.pointer (some ⟨g, 0, none⟩), .slice a n c] w fun e w' => e = .returned (.tuple #[]) ∧ Chg [g] w w' ∧ w'.heap[g]? = some (.cells (kv .u32 (compress h l) ++ t).toArray T) := by
  apply sha_state_block_vc
  refine (schedule_spec a n c l w hr hn).mono ?_
  rintro e w1 ⟨rfl, hc1⟩
  obtain ⟨W, hW⟩ : ∃ W, schedK l 64 = W := ⟨_, rfl⟩
  have hWl : W.length = 64 := by rw [← hW]; exact schedK_len l 64
  obtain ⟨V, hV⟩ : ∃ V, rounds W h 64 = V := ⟨_, rfl⟩
  have hcomp : compress h l = List.zipWith add32 h V := by rw [compress, hW, hV]
  rw [hcomp]
  rw [hW]
  have ze : ∀ k : Nat, 0 + Int.toNat (k : Int) * 1 = k := fun k => by omega
  have hS0 : St w [g] w1 [.arr g T (kv .u32 h ++ t)] := (St.ofBlk (w := w) hg).same hc1
  obtain ⟨g2, w2, r2, h2⟩ := hS0.zeroA w64Z
  obtain ⟨w3, r3, h3⟩ := h2.stA (i := 1) (v := kv .u32 W) rfl (w64S _) (by simp) (by simp [hWl]) (kv_one _ _)
  have hget : ∀ (x : List Nat), x.length = 8 → ∀ j, j < 8 → (kv .u32 x ++ t)[j]? = some (.int .u32 ((x.getD j 0 : Nat) : Int)) := fun x hx j hj => by
    rw [List.getElem?_append_left (by simp; omega), kv_get (by omega)]
  have hk3 : KTab w3.drew := (hK.keep0 hc1).keep0 ((Chg.drew [] w3).trans (Chg.refl _ _) |> fun c => by
    have hc : Chg [] w1 w3 := by
      obtain ⟨g2', w2', r2', h2'⟩ := (St.start w1).zeroA w64Z
      have e1 := r2.symm.trans r2'
      simp only [Result.ok.injEq, Value.pointer.injEq, Option.some.injEq, Addr.mk.injEq, and_true, true_and] at e1
      obtain ⟨rfl, rfl⟩ := e1
      obtain ⟨w3', r3', h3'⟩ := h2'.stA (i := 0) (v := kv .u32 W) rfl (w64S _) (by simp) (by simp [hWl]) (kv_one _ _)
      have e2 := r3.symm.trans r3'
      simp only [Result.ok.injEq, true_and] at e2
      obtain rfl := e2
      exact h3'.chg
    exact hc.trans c)
  have h3d := h3.drew
  have hQ0 := h3d
  obtain ⟨Q, hQ⟩ : ∃ Q : World → Prop, Q = fun w' => St w [g] w' [.arr g T (kv .u32 h ++ t), .arr g2 232 (kv .u32 W)] ∧ KTab w' := ⟨_, rfl⟩
  have hQ3 : Q w3.drew := by rw [hQ]; exact ⟨h3d, hk3⟩
  have hd : ∀ w', Q w' → Q w'.drew := fun w' h => by rw [hQ] at h ⊢; exact ⟨h.1.drew, h.2.keep0 (Chg.drew _ _)⟩
  have ldh : ∀ j : Nat, j < 8 → ∀ off, off = j → ∀ w', Q w' → (Instr.loadAt 209 (.pointer (some ⟨g, off, none⟩))).run Tryz.prog w' = .ok (.int .u32 ((h.getD j 0 : Nat) : Int)) w' := fun j hj off ho w' hq => by
    rw [hQ] at hq; exact hq.1.ldL (i := 0) rfl (uA _) ho (hget h hh j hj)
  have ldw : ∀ j : Nat, j < 64 → ∀ w', Q w' → (Instr.loadAt 209 (.pointer (some ⟨g2, 0 + Int.toNat (j : Int) * 1, none⟩))).run Tryz.prog w' = .ok (.int .u32 ((W.getD j 0 : Nat) : Int)) w' := fun j hj w' hq => by
    rw [hQ] at hq; exact hq.1.ldK (i := 1) rfl (uA _) (ze j) (by omega)
  have ldk : ∀ j : Nat, j < 64 → ∀ w', Q w' → (Instr.loadAt 209 (.pointer (some ⟨5, 0 + Int.toNat (j : Int) * 1, none⟩))).run Tryz.prog w' = .ok (.int .u32 ((kTab.getD j 0 : Nat) : Int)) w' := fun j hj w' hq => by
    rw [hQ] at hq
    have := hq.2 j _ (kv_get (k := .u32) (l := kTab) (by rw [kTab_len]; exact hj))
    rw [show 0 + Int.toNat (j : Int) * 1 = 0 + j by omega]
    exact ld1 (uA _) this
  refine ⟨_, rfl, _, _, r2, w3, r3, Q, hQ3, _, ldh 0 (by decide) _ rfl, _, ldh 1 (by decide) _ rfl, _, ldh 2 (by decide) _ rfl, _, ldh 3 (by decide) _ rfl, _, ldh 4 (by decide) _ rfl, _, ldh 5 (by decide) _ rfl, _, ldh 6 (by decide) _ rfl, _, ldh 7 (by decide) _ rfl, ?_⟩
  refine ⟨fun x0 x1 x2 x3 x4 x5 x6 x7 y w' => ∃ k : Nat, y = (k : Int) ∧ k ≤ 64 ∧ Q w' ∧ ∃ v : List Nat, rounds W h k = v ∧ x0 = ((v.getD 0 0 : Nat) : Int) ∧ x1 = ((v.getD 1 0 : Nat) : Int) ∧ x2 = ((v.getD 2 0 : Nat) : Int) ∧ x3 = ((v.getD 3 0 : Nat) : Int) ∧ x4 = ((v.getD 4 0 : Nat) : Int) ∧ x5 = ((v.getD 5 0 : Nat) : Int) ∧ x6 = ((v.getD 6 0 : Nat) : Int) ∧ x7 = ((v.getD 7 0 : Nat) : Int),
    fun _ _ _ _ _ _ _ _ y _ => 64 - y.toNat, ⟨0, rfl, by omega, hQ3, h, rfl, rfl, rfl, rfl, rfl, rfl, rfl, rfl, rfl⟩, ?_⟩
  rintro x0 x1 x2 x3 x4 x5 x6 x7 y w4 ⟨k, rfl, hk, hq, v, hv, rfl, rfl, rfl, rfl, rfl, rfl, rfl, rfl⟩
  have hvlt : Lt32 v := by rw [← hv]; exact rounds_lt W hlt k
  have hvl : v.length = 8 := by rw [← hv]; exact rounds_len W hh k
  refine ⟨fun hc => ?_, fun hc => ?_⟩
  · have hk' : k < 64 := by simp at hc; omega
    refine ⟨Q, hd _ hq, by omega, by omega, by omega, by omega, _, ldk k hk', _, ldw k hk', (rotr_spec _ 6 _ (hvlt _) (by decide) (by decide)).mono ?_⟩
    rintro e w5 ⟨rfl, rfl⟩
    refine ⟨_, rfl, Q, fun _ h => h, hd _ hq, (rotr_spec _ 11 _ (hvlt _) (by decide) (by decide)).mono ?_⟩
    rintro e w6 ⟨rfl, rfl⟩
    refine ⟨_, rfl, Q, fun _ h => h, hd _ hq, (rotr_spec _ 25 _ (hvlt _) (by decide) (by decide)).mono ?_⟩
    rintro e w7 ⟨rfl, rfl⟩
    refine ⟨_, rfl, Q, fun _ h => h, hd _ hq, (rotr_spec _ 2 _ (hvlt _) (by decide) (by decide)).mono ?_⟩
    rintro e w8 ⟨rfl, rfl⟩
    refine ⟨_, rfl, (rotr_spec _ 13 _ (hvlt _) (by decide) (by decide)).mono ?_⟩
    rintro e w9 ⟨rfl, rfl⟩
    refine ⟨_, rfl, (rotr_spec _ 22 _ (hvlt _) (by decide) (by decide)).mono ?_⟩
    rintro e w10 ⟨rfl, rfl⟩
    refine ⟨_, rfl, ?_⟩
    rw [bg1_val (hvlt _), bg0_val (hvlt _), ch_val (hvlt _) (hvlt _) (hvlt _), maj_val (hvlt _) (hvlt _) (hvlt _)]
    simp only [add_val]
    refine ⟨⟨k + 1, wrap_succ hk' (by omega), by omega, hd _ hq, roundL (kTab.getD k 0) (W.getD k 0) v, by rw [rounds, hv], ?_⟩, mu_succ hk' (by omega)⟩
    obtain ⟨q1, q2, q3, q5, q6, q7⟩ := roundL_gs (kTab.getD k 0) (W.getD k 0) v
    rw [roundL_g0, roundL_g4, q1, q2, q3, q5, q6, q7]
    exact ⟨rfl, rfl, rfl, rfl, rfl, rfl, rfl, rfl⟩
  · have hk' : k = 64 := by simp at hc; omega
    have hvV : v = V := by rw [← hv, hk', hV]
    rw [← hvV]
    clear hv hV hcomp hvV
    obtain ⟨Z, hZ⟩ : ∃ Z, List.zipWith add32 h v = Z := ⟨_, rfl⟩
    have hZl : Z.length = 8 := by rw [← hZ]; exact zip_len hh hvl
    have hZg : ∀ j, j < 8 → Z[j]? = some (add32 (h.getD j 0) (v.getD j 0)) := fun j hj => by rw [← hZ]; exact zip_get hh hvl hj
    rw [hZ]
    rw [hQ] at hq
    have hv8 : v = [v.getD 0 0, v.getD 1 0, v.getD 2 0, v.getD 3 0, v.getD 4 0, v.getD 5 0, v.getD 6 0, v.getD 7 0] := by
      match v, hvl with
      | [_, _, _, _, _, _, _, _], _ => rfl
    have hb : (Instr.build 233 (((kv .u32 [v.getD 0 0, v.getD 1 0, v.getD 2 0, v.getD 3 0, v.getD 4 0, v.getD 5 0, v.getD 6 0, v.getD 7 0]).zipIdx 0).map fun p => (p.2, p.1)).toArray).run Tryz.prog w4 = .ok (.agg (kv .u32 v).toArray) w4 := by
      have := build_arr (P := Tryz.prog) (w := w4) (w8Z w4) Tryz.underlying233 (uS _) (kv .u32 [v.getD 0 0, v.getD 1 0, v.getD 2 0, v.getD 3 0, v.getD 4 0, v.getD 5 0, v.getD 6 0, v.getD 7 0]) (kv_one _ _) (by simp)
      have e : kv .u32 [v.getD 0 0, v.getD 1 0, v.getD 2 0, v.getD 3 0, v.getD 4 0, v.getD 5 0, v.getD 6 0, v.getD 7 0] ++ (kv .u32 (List.replicate 8 0)).drop (kv .u32 [v.getD 0 0, v.getD 1 0, v.getD 2 0, v.getD 3 0, v.getD 4 0, v.getD 5 0, v.getD 6 0, v.getD 7 0]).length = kv .u32 v := by
        rw [List.drop_of_length_le (by simp), List.append_nil, ← hv8]
      rw [e] at this
      exact this
    refine ⟨_, hb, fun x w' => ∃ j : Nat, x = (j : Int) ∧ j ≤ 8 ∧ St w [g] w' [.arr g T (kv .u32 (mixG Z h j) ++ t), .arr g2 232 (kv .u32 W)], fun x _ => 8 - x.toNat, ⟨0, rfl, by omega, by rw [mixG_zero]; exact hq.1⟩, ?_⟩
    rintro x w11 ⟨j, rfl, hj, hS⟩
    have hml : (mixG Z h j).length = 8 := by rw [mixG_len (by omega) (by omega)]; exact hh
    refine ⟨fun hc => ?_, fun hc => ?_⟩
    · have hj' : j < 8 := by simp at hc; omega
      have hgj : (kv .u32 (mixG Z h j) ++ t)[j]? = some (.int .u32 ((h.getD j 0 : Nat) : Int)) := by
        rw [hget _ hml j hj']
        simp only [List.getD, mixG_get (show Z.length = h.length by omega) (show j < h.length by omega)]
      obtain ⟨w12, r12, h12⟩ := hS.drew.stL (i := 0) (v := .int .u32 ((add32 (h.getD j 0) (v.getD j 0) : Nat) : Int)) rfl (uS _) (ze j) (by simp [hml]; omega) rfl
      refine ⟨_, ixArr (cs := kv .u32 v) Tryz.underlying233 (uS _) (uA _) hj' (kv_get (by omega)), fun w' => St w [g] w' [.arr g T (kv .u32 (mixG Z h j) ++ t), .arr g2 232 (kv .u32 W)], hS.drew, by omega, by omega, _, fun w' h => h.ldL (i := 0) rfl (uA _) (ze j) hgj, by omega, by omega, w12, ?_, ⟨j + 1, wrap_succ hj' (by omega), by omega, ?_⟩, mu_succ hj' (by omega)⟩
      · rw [add_val]; exact r12
      · have : (kv .u32 (mixG Z h j) ++ t).set j (.int .u32 ((add32 (h.getD j 0) (v.getD j 0) : Nat) : Int)) = kv .u32 (mixG Z h (j + 1)) ++ t := by
          rw [List.set_append_left _ _ (by simp [hml]; omega), kv_set, mixG_set (by omega) (hZg j hj')]
        rw [← this]; exact h12
    · have hj' : j = 8 := by simp at hc; omega
      subst hj'
      have : mixG Z h 8 = Z := by have := mixG_all (x := Z) (l := h) (by omega); rwa [hh] at this
      rw [this] at hS
      exact ⟨rfl, hS.chg, hS.holds 0 _ rfl⟩

open Go Sx
set_option maxRecDepth 8000

/-- The cells of a state. -/
def hsL (h : List Nat) (a : Option Addr) (k c : Nat) (n : Int) : List Value := kv .u32 h ++ [.slice a k c, .int .i64 n]
theorem hsL_len {h : List Nat} (hl : h.length = 8) (a : Option Addr) (k c : Nat) (n : Int) : (hsL h a k c n).length = 10 := by simp [hsL, hl]
theorem hsL_8 {h : List Nat} (hl : h.length = 8) (a : Option Addr) (k c : Nat) (n : Int) : (hsL h a k c n)[8]? = some (.slice a k c) := by rw [hsL, List.getElem?_append_right (by simp [hl])]; simp [hl]
theorem hsL_9 {h : List Nat} (hl : h.length = 8) (a : Option Addr) (k c : Nat) (n : Int) : (hsL h a k c n)[9]? = some (.int .i64 n) := by rw [hsL, List.getElem?_append_right (by simp [hl])]; simp [hl]
theorem hsL_set8 {h : List Nat} (hl : h.length = 8) (a a' : Option Addr) (k c k' c' : Nat) (n : Int) : (hsL h a k c n).set 8 (.slice a' k' c') = hsL h a' k' c' n := by rw [hsL, List.set_append_right _ _ (by simp [hl])]; simp [hl, hsL]
theorem hsL_set9 {h : List Nat} (hl : h.length = 8) (a : Option Addr) (k c : Nat) (n n' : Int) : (hsL h a k c n).set 9 (.int .i64 n') = hsL h a k c n' := by rw [hsL, List.set_append_right _ _ (by simp [hl])]; simp [hl, hsL]

/-- A row that is cut short. -/
theorem Sx.St.shrink {w0 w : World} {X : List Nat} {M : List Res} (h : St w0 X w M) {i e : Nat} {a : Option Addr} {n c : Nat} {xs : List Value} (hi : M[i]? = some (.row e 1 (.slice a n c) n xs)) {k : Nat} (hk : k ≤ n) : St w0 X w (M.set i (.row e 1 (.slice a k c) k (xs.take k))) := by
  have hown : w.ownsRow 0 e 1 (.slice a n c) n xs := h.holds i _ hi
  refine h.upd hi (Chg.refl _ _) (r' := .row e 1 (.slice a k c) k (xs.take k)) ?_ (fun b hb => .inl ?_)
  · obtain ⟨h1, h2⟩ := hown
    refine ⟨by rw [List.length_take, h1]; omega, ?_⟩
    rcases h2 with ⟨hv, h0⟩ | ⟨g, cap, cur, hv, hb, hg, hle, hm, hs, ht⟩
    · simp only [Value.slice.injEq] at hv
      obtain ⟨rfl, rfl, rfl⟩ := hv
      exact .inl ⟨by simp; omega, by omega⟩
    · simp only [Value.slice.injEq] at hv
      obtain ⟨rfl, _, rfl⟩ := hv
      refine .inr ⟨g, c, cur, rfl, hb, hg, by omega, hm, hs, ?_⟩
      rw [← ht, List.take_take, Nat.mul_one, Nat.mul_one, Nat.min_eq_left hk]
  · cases a with
    | none => simp [Res.fp, Value.ownBlock] at hb
    | some _ => simpa [Res.fp, Value.ownBlock] using hb

/-- Readable under whatever changes of some blocks. -/
def RdK (F : List Nat) (w : World) (a : Option Addr) (n c : Nat) (l : List UInt8) : Prop := ∀ w', Chg F w w' → RdB w' a n c l

theorem RdK.sub {F : List Nat} {w : World} {a a' : Option Addr} {n c k : Nat} {l : List UInt8} (h : RdK F w a n c l) (hs : SubA 1 a k c a') (hk : k ≤ n) (hn : n ≤ c) (hl : l.length = n) : RdK F w a' (n - k) (c - k) (l.drop k) := fun w' hc => by
  have := (h w' hc).sub hs (hh := n) hk (Nat.le_refl _) hn (Nat.le_refl _)
  have e1 : ((bv l).drop (k * 1)).take ((n - k) * 1) = bv (l.drop k) := by
    rw [Nat.mul_one, Nat.mul_one, List.take_of_length_le (by simp; omega), bv_drop]
  rw [e1] at this
  exact this

theorem rdK_old {w0 w : World} {N : List Res} (h : St w0 [] w N) {a : Option Addr} {n c : Nat} {l : List UInt8} (hr : RdB w0 a n c l) : RdK (fpsL N) w a n c l := fun _ hc =>
  hr.keep0 (h.chg.trans' hc fun k hk => .inl (h.fps_own k hk))
theorem rdK_row {w0 w : World} {X : List Nat} {M N : List Res} (h : St w0 X w (M ++ N)) {a : Option Addr} {n c : Nat} {l : List UInt8} (hr : Res.row 5 1 (.slice a n c) n (bv l) ∈ M) : RdK (fpsL N) w a n c l := fun _ hc =>
  ownsRow_rd (h.keptPart hr hc)
theorem rdK_arr {w0 w : World} {X : List Nat} {M N : List Res} (h : St w0 X w (M ++ N)) {g T n : Nat} {l : List UInt8} (hr : Res.arr g T (bv l) ∈ M) (hl : l.length = n) : RdK (fpsL N) w (some ⟨g, 0, none⟩) n n l := fun _ hc => by
  have hh : Res.holds _ (Res.arr g T (bv l)) := h.keptPart hr hc
  exact (St.ofBlk (o := .cells (bv l).toArray T) hh).rdA (i := 0) rfl (by simpa using hl)

/-- A state that has taken a message, in memory. -/
def hM (g T : Nat) (m : List UInt8) (a : Option Addr) (c : Nat) : List Res := [.arr g T (hsL (hOf m) a (rOf m).length c (m.length : Int)), .row 5 1 (.slice a (rOf m).length c) (rOf m).length (bv (rOf m))]

theorem write_spec (F : List Nat) (g T : Nat) (m : List UInt8) (a : Option Addr) (c : Nat) (a1 : Option Addr) (n1 c1 : Nat) (l : List UInt8) (w : World) (hK : KTab w) (hF : 5 ∉ F) (hS : St w F w (hM g T m a c)) (hr : RdK F w a1 n1 c1 l) (hb : m.length + l.length ≤ 140737488350000) :
    Calls Tryz.prog 182 #[.pointer (some ⟨g, 0, none⟩), .slice a1 n1 c1] w fun e w' => e = .returned (.tuple #[]) ∧ ∃ a' c', St w F w' (hM g T (m ++ l) a' c') := by
  have hrd := hr w (Chg.refl _ _)
  have hl := hrd.lenB
  have hle := hrd.le
  have iI : ∀ w, (isAgg 3).run Tryz.prog w = .ok false w := fun w => Tryz.isAgg3 w
  have sI : ∀ w, (sizeOf 3).run Tryz.prog w = .ok 1 w := fun w => Tryz.sizeOf3 w
  have sS : ∀ w, (sizeOf 33).run Tryz.prog w = .ok 1 w := fun w => Tryz.sizeOf33 w
  have hhl := hOf_len m
  have hrl := rOf_len m
  obtain ⟨k, hk⟩ : ∃ k, (rOf m).length = k := ⟨_, rfl⟩
  rw [hM, hk] at hS
  rw [hk] at hrl
  -- taking a block
  have blk : ∀ (wx : World) (h : List Nat) (a' : Option Addr) (k' c' : Nat) (n' : Int) (R' : Res) (ab : Option Addr) (cb : Nat) (lb : List UInt8) (K : Ending → World → Prop), St w F wx [.arr g T (hsL h a' k' c' n'), R'] → h.length = 8 → Lt32 h → RdB wx ab 64 cb lb →
      (∀ wy, Chg [g] wx wy → St w F wy [.arr g T (hsL (compress h lb) a' k' c' n'), R'] → K (.returned (.tuple #[])) wy) → Calls Tryz.prog 187 #[.pointer (some ⟨g, 0, none⟩), .slice ab 64 cb] wx K := by
    intro wx h a' k' c' n' R' ab cb lb K hSx hh hlt hrb hK'
    refine (shaBlock_spec g T h _ ab 64 cb lb wx (hK.keep hSx.chg hF) (hSx.holds 0 _ rfl) hh hlt hrb rfl).mono ?_
    rintro e wy ⟨rfl, hc, hg⟩
    exact hK' wy hc (hSx.upd (i := 0) (r' := .arr g T (hsL (compress h lb) a' k' c' n')) rfl hc hg (by simp [Res.fp]))
  apply sha_state_write_vc
  obtain ⟨w1, r1, h1⟩ := hS.stL (i := 0) (o := 9) (v := .int .i64 ((m.length + n1 : Nat) : Int)) rfl (sI _) rfl (by rw [hsL_len hhl]; omega) rfl
  rw [hsL_set9 hhl] at h1
  have hw : IntKind.wrap .i64 ((m.length : Int) + (n1 : Int)) = ((m.length + n1 : Nat) : Int) := by rw [wrap_i64 (by omega) (by omega)]; omega
  refine ⟨_, hS.ldL (i := 0) (o := 9) rfl (iI _) rfl (hsL_9 hhl _ _ _ _), ?_⟩
  rw [hw]
  refine ⟨w1, r1, _, _, _, h1.ldL (i := 0) (o := 8) rfl (bsA _) rfl (hsL_8 hhl _ _ _ _),
    fun xa xn xc w' => ∃ (m1 l1 : List UInt8) (a' : Option Addr) (c' : Nat), m ++ l = m1 ++ l1 ∧ m1.length % 64 = 0 ∧ l1.length = xn ∧ xn ≤ xc ∧ RdK F w xa xn xc l1 ∧ St w F w' [.arr g T (hsL (hOf m1) a' 0 c' ((m.length + n1 : Nat) : Int)), .row 5 1 (.slice a' 0 c') 0 []], ⟨fun h => ?_, fun h => ?_⟩, ?_⟩
  · have hk0 : 0 < k := by simp at h; omega
    clear h
    obtain ⟨t, ht⟩ : ∃ t : Nat, t = min n1 (64 - k) := ⟨_, rfl⟩
    have e : (if (n1 : Int) < IntKind.wrap .i64 (64 - (k : Int)) then (n1 : Int) else IntKind.wrap .i64 (64 - (k : Int))) = (t : Int) := by
      rw [wrap_i64 (by omega) (by omega)]
      split <;> omega
    have h1d := h1.drew
    have hrt : RdB w1.drew a1 t c1 (l.take t) := rdB_upto (hr _ h1d.chg) (by omega)
    obtain ⟨va, vc, w2, r2, h2⟩ := h1d.appendB (i := 1) rfl hrt (by omega)
    obtain ⟨w3, r3, h3⟩ := h2.stL (i := 0) (o := 8) (v := .slice va (k + t) vc) rfl (sS _) rfl (by rw [hsL_len hhl]; omega) rfl
    rw [hsL_set8 hhl] at h3
    have h3' : St w F w3 [.arr g T (hsL (hOf m) va (k + t) vc ((m.length + n1 : Nat) : Int)), .row 5 1 (.slice va (k + t) vc) (k + t) (bv (rOf m ++ l.take t))] := h3
    have ld3 := h3'.ldL (P := Tryz.prog) (T := 33) (i := 0) (o := 8) rfl (bsA _) rfl (hsL_8 hhl _ _ _ _)
    refine ⟨_, _, _, h1.ldL (i := 0) (o := 8) rfl (bsA _) rfl (hsL_8 hhl _ _ _ _), ?_⟩
    rw [e]
    simp only [Int.toNat_natCast]
    refine ⟨fun w' => ∃ R' : Res, St w F w' [.arr g T (hsL (hOf m) a k c ((m.length + n1 : Nat) : Int)), R'], ⟨_, h1d⟩, by omega, by omega, _, _, _, fun w' ⟨_, h⟩ => h.ldL (i := 0) (o := 8) rfl (bsA _) rfl (hsL_8 hhl _ _ _ _), va, k + t, vc, w2, r2, fun w' => ∃ R' : Res, St w F w' [.arr g T (hsL (hOf m) a k c ((m.length + n1 : Nat) : Int)), R'], fun _ h => h, ⟨_, h2⟩, w3, r3, by omega, by omega, by omega, fun a2 hs2 => ?_⟩
    refine ⟨_, _, _, ld3, fun h => ?_, fun h => ?_⟩
    · have hlt : k + t < 64 := by simp at h; omega
      have htn : t = n1 := by omega
      have htk : l.take t = l := List.take_of_length_le (by omega)
      obtain ⟨f1, f2⟩ := hOf_few (m := m) (b := l) (by omega)
      refine ⟨trivial, va, vc, ?_⟩
      rw [htk, htn] at h3'
      rw [hM, f1, f2, List.length_append, hk, hl, List.length_append, hl]
      exact h3'
    · have hge : k + t = 64 := by simp at h; omega
      have hlt' : (l.take t).length = t := by rw [List.length_take]; omega
      obtain ⟨f1, f2⟩ := hOf_fill (m := m) (b := l.take t) (by omega)
      rw [hge] at h3' ld3
      refine ⟨_, _, _, ld3, blk w3 (hOf m) _ _ _ _ _ _ _ _ _ h3' hhl (hOf_lt m) (h3'.rd (i := 1) rfl) fun w4 _ h4 => ⟨rfl, ?_⟩⟩
      rw [← f1] at h4
      have hhl2 := hOf_len (m ++ l.take t)
      obtain ⟨w5, r5, h5⟩ := h4.stL (i := 0) (o := 8) (v := .slice va 0 vc) rfl (sS _) rfl (by rw [hsL_len hhl2]; omega) rfl
      rw [hsL_set8 hhl2] at h5
      have h5' := h5.shrink (i := 1) rfl (k := 0) (by omega)
      refine ⟨_, _, _, h4.ldL (i := 0) (o := 8) rfl (bsA _) rfl (hsL_8 hhl2 _ _ _ _), by omega, by omega, w5, r5, m ++ l.take t, l.drop t, va, vc, by rw [List.append_assoc, List.take_append_drop], ?_, by simp; omega, by omega, hr.sub hs2 (by omega) hle hl, h5'⟩
      rw [List.length_append, hlt']; omega
  · have hk0 : k = 0 := by simp at h; omega
    subst hk0
    have hr0 : rOf m = [] := List.eq_nil_of_length_eq_zero hk
    rw [hr0] at h1
    exact ⟨m, l, a, c, rfl, by omega, hl, hle, hr, h1⟩
  rintro xa xn xc w6 ⟨m1, l1, a6, c6, he6, hm6, hl6, hx6, hr6, h6⟩
  refine ⟨fun xa xn xc w' => ∃ (m1 l1 : List UInt8) (a' : Option Addr) (c' : Nat), m ++ l = m1 ++ l1 ∧ m1.length % 64 = 0 ∧ l1.length = xn ∧ xn ≤ xc ∧ RdK F w xa xn xc l1 ∧ St w F w' [.arr g T (hsL (hOf m1) a' 0 c' ((m.length + n1 : Nat) : Int)), .row 5 1 (.slice a' 0 c') 0 []], fun _ xn _ _ => xn, ⟨m1, l1, a6, c6, he6, hm6, hl6, hx6, hr6, h6⟩, ?_⟩
  clear h6 hr6 hx6 hl6 hm6 he6 a6 c6 m1 l1
  rintro xa xn xc w7 ⟨m1, l1, a', c', he, hm, hl1, hx, hr7, h7⟩
  have hm1r : rOf m1 = [] := List.eq_nil_of_length_eq_zero (by rw [rOf_len]; exact hm)
  refine ⟨fun h => ?_, fun h => ?_⟩
  · have h64 : 64 ≤ xn := by simp at h; omega
    have hlt' : (l1.take 64).length = 64 := by rw [List.length_take]; omega
    obtain ⟨f1, f2⟩ := hOf_fill (m := m1) (b := l1.take 64) (by omega)
    rw [hm1r, List.nil_append] at f1
    refine ⟨by omega, by omega, blk w7 (hOf m1) _ _ _ _ _ _ _ _ _ h7 (hOf_len m1) (hOf_lt m1) (rdB_upto (hr7 w7 h7.chg) (k := 64) h64) fun w8 hc8 h8 => ⟨rfl, by omega, by omega, by omega, fun a9 hs9 => ⟨⟨m1 ++ l1.take 64, l1.drop 64, a', c', by rw [he, List.append_assoc, List.take_append_drop], by rw [List.length_append, hlt']; omega, by simp; omega, by omega, hr7.sub hs9 h64 hx hl1, ?_⟩, ?_⟩⟩⟩
    · rw [f1]; exact h8
    · show xn - 64 < xn
      omega
  · have h64 : xn < 64 := by simp at h; omega
    obtain ⟨f1, f2⟩ := hOf_few (m := m1) (b := l1) (by omega)
    rw [hm1r, List.nil_append] at f2
    have hhl2 := hOf_len m1
    have hlen : (m ++ l).length = m.length + n1 := by rw [List.length_append, hl]
    obtain ⟨va, vc, w9, r9, h9⟩ := h7.appendB (i := 1) (xs := []) rfl (hr7 w7 h7.chg) (by omega)
    simp only [Nat.zero_add, List.nil_append] at r9 h9
    obtain ⟨w10, r10, h10⟩ := h9.stL (i := 0) (o := 8) (v := .slice va xn vc) rfl (sS _) rfl (by rw [hsL_len hhl2]; omega) rfl
    rw [hsL_set8 hhl2] at h10
    refine ⟨_, _, _, h7.ldL (i := 0) (o := 8) rfl (bsA _) rfl (hsL_8 hhl2 _ _ _ _), _, _, _, _, r9, w10, r10, rfl, va, vc, ?_⟩
    rw [hM, hlen, he, f1, f2, hl1]
    exact h10

open Go Sx
set_option maxRecDepth 8000

theorem d32A (w : World) : (isAgg 22).run Tryz.prog w = .ok true w := Tryz.isAgg22 w
theorem d32S (w : World) : (sizeOf 22).run Tryz.prog w = .ok 32 w := Tryz.sizeOf22 w
theorem d32Z (w : World) : (zeroValue 22).run Tryz.prog w = .ok (.agg (bv (List.replicate 32 0)).toArray) w := Tryz.zeroValue22 w
theorem stA (w : World) : (isAgg 268).run Tryz.prog w = .ok true w := Tryz.isAgg268 w
theorem stS (w : World) : (sizeOf 268).run Tryz.prog w = .ok 10 w := Tryz.sizeOf268 w
theorem stZ (w : World) : (zeroValue 268).run Tryz.prog w = .ok (.agg (hsL (List.replicate 8 0) none 0 0 0).toArray) w := Tryz.zeroValue268 w

theorem hsL_one (h : List Nat) (a : Option Addr) (k c : Nat) (n : Int) : ∀ u ∈ hsL h a k c n, u.oneCell' = true := by
  intro u hu
  simp only [hsL, List.mem_append, List.mem_cons, List.not_mem_nil, or_false] at hu
  rcases hu with hu | rfl | rfl
  · exact kv_one _ _ u hu
  · rfl
  · rfl

theorem built_state : Tryz.prog.built 268 = fun parts => Instr.fill (fun i => (#[(0, 8), (8, 1), (9, 1)] : Array (Nat × Nat))[i]?) (hsL (List.replicate 8 0) none 0 0 0).toArray parts := by kernel_rfl
theorem built_hasher : Tryz.prog.built 271 = fun parts => Instr.fill (fun i => (#[(0, 10)] : Array (Nat × Nat))[i]?) (hsL (List.replicate 8 0) none 0 0 0).toArray parts := by kernel_rfl

theorem state_build {h : List Nat} (hh : h.length = 8) (w : World) : (Instr.build 268 #[(0, .agg (kv .u32 h).toArray)]).run Tryz.prog w = .ok (.agg (hsL h none 0 0 0).toArray) w := by
  apply run_build
  rw [built_state]
  show Instr.fill _ _ [(0, .agg (kv .u32 h).toArray)] = _
  rw [fill_step (off := 0) (sz := 8) rfl (by simp [Value.cells, hh]) (by simp [hsL])]
  simp [Instr.fill, Value.cells, hsL]
theorem hasher_build {l : List Value} (hl : l.length = 10) (w : World) : (Instr.build 271 #[(0, .agg l.toArray)]).run Tryz.prog w = .ok (.agg l.toArray) w := by
  apply run_build
  rw [built_hasher]
  show Instr.fill _ _ [(0, .agg l.toArray)] = _
  rw [fill_step (off := 0) (sz := 10) rfl (by simp [Value.cells, hl]) (by simp [hsL])]
  simp [Instr.fill, Value.cells, hsL]

theorem shaBegin_spec (w : World) : Calls Tryz.prog 181 #[] w fun e w' => e = .returned (.agg (hsL h0L none 0 0 0).toArray) ∧ Chg [] w w' := by
  apply sha_begin_vc
  obtain ⟨g1, w1, r1, h1⟩ := (St.start w).zeroA stZ
  have hb : (Instr.build 233 (((kv .u32 h0L).zipIdx 0).map fun p => (p.2, p.1)).toArray).run Tryz.prog w1 = .ok (.agg (kv .u32 h0L).toArray) w1 := by
    have := build_arr (P := Tryz.prog) (w := w1) (w8Z w1) Tryz.underlying233 (uS _) (kv .u32 h0L) (kv_one _ _) (by simp [h0L])
    rwa [List.drop_of_length_le (by simp [h0L]), List.append_nil] at this
  obtain ⟨w2, r2, h2⟩ := h1.stA (i := 0) (v := hsL h0L none 0 0 0) rfl (stS _) (hsL_len (by simp) _ _ _ _) (hsL_len rfl _ _ _ _) (hsL_one _ _ _ _ _)
  exact ⟨_, _, r1, _, hb, _, state_build rfl _, w2, r2, _, h2.ldVarA (i := 0) rfl (stA _) (stS _) (hsL_len rfl _ _ _ _), rfl, h2.chg⟩

theorem shaNew_spec (w : World) : Calls Tryz.prog 168 #[] w fun e w' => ∃ g, e = .returned (.pointer (some ⟨g, 0, none⟩)) ∧ St w [] w' (hM g 271 [] none 0) := by
  apply sha_New_vc
  refine (shaBegin_spec w).mono ?_
  rintro e w1 ⟨rfl, hc1⟩
  obtain ⟨g, w2, r2, h2⟩ := ((St.start w).same hc1).boxA (P := Tryz.prog) 271 (hsL h0L none 0 0 0)
  exact ⟨_, rfl, _, hasher_build (hsL_len rfl _ _ _ _) w1, g, w2, r2, g, rfl, h2.addNil _ _⟩

theorem lenB_val (n x : Nat) (hx : x < 8) : IntKind.wrap .u8 (shrI .u64 (IntKind.wrap .u64 (IntKind.wrap .u64 (n : Int) * 8)) ((56 - 8 * x : Nat) : Int)) = ((lenB n x).toNat : Int) := by
  have e : IntKind.wrap .u64 (IntKind.wrap .u64 (n : Int) * 8) = ((n * 8 % 18446744073709551616 : Nat) : Int) := by
    rw [wrap_u64, wrap_u64]; omega
  rw [e, shr_nat _ _ _ (by simp [IntKind.bits]; omega), wrap_u8, lenB, UInt8.toNat_ofNat']
  simp

theorem digB_val (h : List Nat) (i j : Nat) (hj : j < 4) : IntKind.wrap .u8 (shrI .u32 ((h.getD i 0 : Nat) : Int) ((24 - 8 * j : Nat) : Int)) = ((digB h (4 * i + j)).toNat : Int) := by
  rw [shr_val _ _ (by omega), wrap_u8, digB, show (4 * i + j) / 4 = i by omega, show (4 * i + j) % 4 = j by omega, UInt8.toNat_ofNat']
  simp

/-- Some cells at the front of an array, read whole. -/
theorem Sx.St.ldPre {w0 w : World} {X : List Nat} {M : List Res} (h : St w0 X w M) {i g n : Nat} {l : List Value} {T' T : TypeId} (hi : M[i]? = some (.arr g T' l)) (hT : (isAgg T).run Tryz.prog w = .ok true w) (hS : (sizeOf T).run Tryz.prog w = .ok n w) (hl : n ≤ l.length) :
    (Instr.loadAt T (.pointer (some ⟨g, 0, none⟩))).run Tryz.prog w = .ok (.agg (l.take n).toArray) w := by
  have hr : w.rangeAt g 0 (l.take n) := fun j v hj => by
    rw [List.getElem?_take] at hj
    split at hj
    · exact h.cellsA hi j v hj
    · cases hj
  have := loadCells_cells (P := Tryz.prog) hr
  rw [List.length_take, Nat.min_eq_left hl] at this
  simp [Instr.loadAt, Instr.sureAddr, loadVar, hT, hS, this]

theorem sum_val_spec (m : List UInt8) (a : Option Addr) (c : Nat) (w : World) (hK : KTab w) (hr : RdB w a (rOf m).length c (rOf m)) (hb : m.length ≤ 70368744177664) :
    Calls Tryz.prog 183 #[.agg (hsL (hOf m) a (rOf m).length c (m.length : Int)).toArray] w fun e w' => e = .returned (.agg (bv (shaF m)).toArray) ∧ Chg [] w w' := by
  have iI : ∀ w, (isAgg 3).run Tryz.prog w = .ok false w := fun w => Tryz.isAgg3 w
  have sS : ∀ w, (sizeOf 33).run Tryz.prog w = .ok 1 w := fun w => Tryz.sizeOf33 w
  have sB : ∀ w, (sizeOf 5).run Tryz.prog w = .ok 1 w := fun w => Tryz.sizeOf5 w
  have hhl := hOf_len m
  have hrl := rOf_len m
  obtain ⟨k, hk⟩ : ∃ k, (rOf m).length = k := ⟨_, rfl⟩
  rw [hk] at hr hrl ⊢
  apply sha_state_sum_vc
  obtain ⟨g1, w1, r1, h1⟩ := (St.start w).boxA (P := Tryz.prog) 268 (hsL (hOf m) a k c (m.length : Int))
  obtain ⟨g2, w2, r2, h2⟩ := h1.zeroA d32Z
  refine ⟨_, _, r1, _, _, r2, _, h2.ldL (i := 0) (o := 9) rfl (iI _) rfl (hsL_9 hhl _ _ _ _), _, _, _, h2.ldL (i := 0) (o := 8) rfl (bsA _) rfl (hsL_8 hhl _ _ _ _), (clone_spec a k c (rOf m) w2 (h2.rd1 hr) (by omega)).mono ?_⟩
  rintro e w3 ⟨a3, c3, rfl, hf3⟩
  have h3 := hf3.add h2
  obtain ⟨w4, r4, h4⟩ := h3.stL (i := 0) (o := 8) (v := .slice a3 k c3) rfl (sS _) rfl (by rw [hsL_len hhl]; omega) rfl
  rw [hsL_set8 hhl] at h4
  obtain ⟨g5, w5, r5, h5⟩ := h4.mk0n (kl := .i64) (kc := .i64) (c := 80) bT (by omega) (by omega)
  obtain ⟨g6, w6, va, vc, w7, r6, r7, h7, _⟩ := h5.push1 (i := 3) (n := 0) (pre := []) rfl (by omega) 128 (by decide)
  refine ⟨_, _, _, rfl, w4, r4, _, _, _, _, r5, _, _, _, _, r6, _, _, _, _, r7, ?_⟩
  have e128 : UInt8.ofNat 128 = 0x80 := rfl
  obtain ⟨n, hn⟩ : ∃ n, m.length = n := ⟨_, rfl⟩
  rw [hn] at hrl hb h7 ⊢
  obtain ⟨Mx, hMx⟩ : ∃ Mx : List Res, Mx = [.arr g1 268 (hsL (hOf m) a3 k c3 (n : Int)), .arr g2 22 (bv (List.replicate 32 0)), .row 5 1 (.slice a3 k c3) k (bv (rOf m))] := ⟨_, rfl⟩
  have ldn : ∀ {w' : World} {N : List Res}, St w [] w' (Mx ++ N) → (Instr.loadAt 3 (.pointer (some ⟨g1, 9, none⟩))).run Tryz.prog w' = .ok (.int .i64 (n : Int)) w' := fun {w' N} h => by
    rw [hMx] at h; exact h.ldL (i := 0) (o := 9) rfl (iI _) rfl (hsL_9 hhl _ _ _ _)
  have hi3 : ∀ (r : Res), (Mx ++ [r])[3]? = some r := fun r => by rw [hMx]; rfl
  have hs3 : ∀ (r s : Res), (Mx ++ [r]).set 3 s = Mx ++ [s] := fun r s => by rw [hMx]; rfl
  have h7' : St w [] w7 (Mx ++ [.row 5 1 (.slice va 1 vc) 1 (bv [0x80])]) := by rw [hMx]; exact h7
  clear h7 h5 h4 h3
  refine ⟨fun xa xn xc w' => ∃ z : Nat, z ≤ zerosN n ∧ xn = 1 + z ∧ St w [] w' (Mx ++ [.row 5 1 (.slice xa xn xc) xn (bv (0x80 :: List.replicate z 0))]), fun _ xn _ _ => 1 + zerosN n - xn, ⟨0, by omega, rfl, h7'⟩, ?_⟩
  rintro xa xn xc w8 ⟨z, hz, rfl, h8⟩
  have hzl := zerosN_lt n
  have hmod : IntKind.wrap .i64 (IntKind.wrap .i64 ((n : Int) + ((1 + z : Nat) : Int)) + 8) = ((n + (1 + z) + 8 : Nat) : Int) := by
    rw [show IntKind.wrap .i64 ((n : Int) + ((1 + z : Nat) : Int)) = ((n + (1 + z) : Nat) : Int) by rw [wrap_i64 (by omega) (by omega)]; omega, wrap_i64 (by omega) (by omega)]; omega
  refine ⟨_, ldn h8, fun h => ?_, fun h => ?_⟩
  · rw [hmod, Int.tmod_eq_emod_of_nonneg (by omega)] at h
    have hne : (n + (1 + z) + 8) % 64 ≠ 0 := by simp at h; omega
    have hz' : z < zerosN n := by
      rcases Nat.lt_or_ge z (zerosN n) with h1 | h1
      · exact h1
      · have : z = zerosN n := by omega
        rw [this] at hne
        simp only [zerosN] at hne
        omega
    obtain ⟨g9, w9, vb, vd, w10, r9, r10, h10, _⟩ := h8.push1 (i := 3) (n := 1 + z) (hi3 _) (by omega) 0 (by decide)
    rw [hs3] at h10
    refine ⟨_, _, _, _, r9, _, _, _, _, r10, ⟨z + 1, by omega, by omega, ?_⟩, (by show 1 + zerosN n - (1 + z + 1) < 1 + zerosN n - (1 + z); omega)⟩
    have : (0x80 :: List.replicate z 0) ++ [UInt8.ofNat 0] = (0x80 : UInt8) :: List.replicate (z + 1) 0 := by
      rw [List.replicate_succ']; rfl
    rw [← this]
    exact h10
  · rw [hmod, Int.tmod_eq_emod_of_nonneg (by omega)] at h
    have he : (n + (1 + z) + 8) % 64 = 0 := by simp at h; omega
    have hz' : z = zerosN n := by
      simp only [zerosN] at hz ⊢
      omega
    subst hz'
    refine ⟨fun xa xn xc x w' => ∃ j : Nat, x = (j : Int) ∧ j ≤ 8 ∧ xn = 1 + zerosN n + j ∧ St w [] w' (Mx ++ [.row 5 1 (.slice xa xn xc) xn (bv (0x80 :: (List.replicate (zerosN n) 0 ++ (List.range j).map (lenB n))))]), fun _ _ _ x _ => 8 - x.toNat, ⟨0, rfl, by omega, rfl, by simpa using h8⟩, ?_⟩
    rintro ya yn yc y w11 ⟨j, rfl, hj, rfl, h11⟩
    refine ⟨fun h => ?_, fun h => ?_⟩
    · have hj' : j < 8 := by simp at h; omega
      have e1 : IntKind.wrap .i64 ((56 : Int) - IntKind.wrap .i64 (8 * (j : Int))) = ((56 - 8 * j : Nat) : Int) := by
        rw [show IntKind.wrap .i64 (8 * (j : Int)) = ((8 * j : Nat) : Int) by rw [wrap_i64 (by omega) (by omega)]; omega, wrap_i64 (by omega) (by omega)]; omega
      rw [e1, lenB_val n j hj']
      obtain ⟨g12, w12, vb, vd, w13, r12, r13, h13, _⟩ := h11.push1 (i := 3) (n := 1 + zerosN n + j) (hi3 _) (by omega) (lenB n j).toNat (lenB n j).toNat_lt
      rw [hs3] at h13
      refine ⟨by omega, _, _, _, _, r12, _, _, _, _, r13, ⟨j + 1, wrap_succ hj' (by omega), by omega, by omega, ?_⟩, mu_succ hj' (by omega)⟩
      have : (0x80 :: (List.replicate (zerosN n) 0 ++ (List.range j).map (lenB n))) ++ [UInt8.ofNat (lenB n j).toNat] = (0x80 : UInt8) :: (List.replicate (zerosN n) 0 ++ (List.range (j + 1)).map (lenB n)) := by
        rw [List.range_succ, List.map_append]; simp
      rw [← this]
      exact h13
    · have hj' : j = 8 := by simp at h; omega
      subst hj'
      have hpl : (padL n).length = 1 + zerosN n + 8 := by rw [padL_len]; omega
      have h11' : St w [] w11 (Mx ++ [.row 5 1 (.slice ya (1 + zerosN n + 8) yc) (1 + zerosN n + 8) (bv (padL n))]) := h11
      -- the state and its rest, the others ahead
      have hp : St w [] w11 ([.row 5 1 (.slice ya (1 + zerosN n + 8) yc) (1 + zerosN n + 8) (bv (padL n)), .arr g2 22 (bv (List.replicate 32 0))] ++ hM g1 268 m a3 c3) := by
        rw [hMx] at h11'
        rw [hM, hk, hn]
        refine h11'.perm ?_
        refine (List.perm_append_comm (l₁ := [_, _, _]) (l₂ := [_])).trans (List.Perm.cons _ (List.Perm.swap _ _ _))
      have hS0 := (hp.sub (List.sublist_append_right _ _))
      have hgk : 5 ∉ fpsL (hM g1 268 m a3 c3) := fun hx => by
        have := hS0.fps_own _ hx
        have := hK.lt
        omega
      refine (write_spec _ g1 _ m a3 c3 ya _ yc (padL n) w11 (hK.keep0 hp.chg) hgk hS0.self (rdK_row hp (by simp)) (by omega)).mono ?_
      rintro e w14 ⟨rfl, a14, c14, h14⟩
      have h14' := hp.callPart h14
      have htot : (m ++ padL n).length = n + (1 + zerosN n + 8) := by rw [List.length_append, hpl, hn]
      obtain ⟨H, hH⟩ : ∃ H, hOf (m ++ padL n) = H := ⟨_, rfl⟩
      have hHl : H.length = 8 := by rw [← hH]; exact hOf_len _
      have hsha : shaF m = digL H := by rw [shaF, hn, hH]
      rw [hsha]
      rw [hM, hH] at h14'
      obtain ⟨g15, w15, r15, h15⟩ := h14'.zeroA d32Z
      obtain ⟨N, hN⟩ : ∃ N : List Res, N = [.row 5 1 (.slice ya (1 + zerosN n + 8) yc) (1 + zerosN n + 8) (bv (padL n)), .arr g2 22 (bv (List.replicate 32 0))] ++ [.arr g1 268 (hsL H a14 (rOf (m ++ padL n)).length c14 ((m ++ padL n).length : Int)), .row 5 1 (.slice a14 (rOf (m ++ padL n)).length c14) (rOf (m ++ padL n)).length (bv (rOf (m ++ padL n)))] := ⟨_, rfl⟩
      have hpre : ((hsL H a14 (rOf (m ++ padL n)).length c14 ((m ++ padL n).length : Int))).take 8 = kv .u32 H := by
        rw [hsL, List.take_append_of_le_length (by simp [hHl]), List.take_of_length_le (by simp [hHl])]
      have hld := h15.ldPre (T := 233) (i := 2) rfl (w8A _) (w8S _) (by rw [hsL_len hHl]; omega)
      rw [hpre] at hld
      have hi4 : ∀ (r : Res), (N ++ [r])[4]? = some r := fun r => by rw [hN]; rfl
      have hi1 : ∀ (r : Res), (N ++ [r])[1]? = some (.arr g2 22 (bv (List.replicate 32 0))) := fun r => by rw [hN]; rfl
      have hs4 : ∀ (r s : Res), (N ++ [r]).set 4 s = N ++ [s] := fun r s => by rw [hN]; rfl
      have h15' : St w [] w15 (N ++ [.arr g15 22 (bv (upTo (digL H) 0))]) := by rw [hN, upTo_zero, digL_len]; exact h15
      clear h15
      refine ⟨rfl, g15, w15, r15, _, hld, fun x w' => ∃ i : Nat, x = (i : Int) ∧ i ≤ 8 ∧ St w [] w' (N ++ [.arr g15 22 (bv (upTo (digL H) (4 * i)))]), fun x _ => 8 - x.toNat, ⟨0, rfl, by omega, h15'⟩, ?_⟩
      rintro x w16 ⟨i, rfl, hi, h16⟩
      refine ⟨fun h => ?_, fun h => ?_⟩
      · have hi' : i < 8 := by simp at h; omega
        have e1 : IntKind.wrap .i64 ((4 : Int) * (i : Int)) = ((4 * i : Nat) : Int) := by rw [wrap_i64 (by omega) (by omega)]; omega
        have e2 : ∀ j : Nat, j < 4 → IntKind.wrap .i64 (((4 * i : Nat) : Int) + (j : Int)) = ((4 * i + j : Nat) : Int) := fun j hj => by rw [wrap_i64 (by omega) (by omega)]; omega
        have e21 : IntKind.wrap .i64 (((4 * i : Nat) : Int) + 1) = ((4 * i + 1 : Nat) : Int) := e2 1 (by omega)
        have e22 : IntKind.wrap .i64 (((4 * i : Nat) : Int) + 2) = ((4 * i + 2 : Nat) : Int) := e2 2 (by omega)
        have e23 : IntKind.wrap .i64 (((4 * i : Nat) : Int) + 3) = ((4 * i + 3 : Nat) : Int) := e2 3 (by omega)
        rw [e1, e21, e22, e23]
        refine ⟨_, ixArr (cs := kv .u32 H) Tryz.underlying233 (uS _) (uA _) hi' (kv_get (by omega)), ?_⟩
        have v0 : IntKind.wrap .u8 (shrI .u32 ((H.getD i 0 : Nat) : Int) 24) = ((digB H (4 * i)).toNat : Int) := digB_val H i 0 (by omega)
        have v1 : IntKind.wrap .u8 (shrI .u32 ((H.getD i 0 : Nat) : Int) 16) = ((digB H (4 * i + 1)).toNat : Int) := digB_val H i 1 (by omega)
        have v2 : IntKind.wrap .u8 (shrI .u32 ((H.getD i 0 : Nat) : Int) 8) = ((digB H (4 * i + 2)).toNat : Int) := digB_val H i 2 (by omega)
        have v3 : IntKind.wrap .u8 ((H.getD i 0 : Nat) : Int) = ((digB H (4 * i + 3)).toNat : Int) := by
          have := digB_val H i 3 (by omega)
          rw [show 24 - 8 * 3 = 0 from rfl, shr_val _ _ (by omega), Nat.pow_zero, Nat.div_one] at this
          exact this
        rw [v0, v1, v2, v3]
        have ze : ∀ k : Nat, 0 + Int.toNat (k : Int) * 1 = k := fun k => by omega
        have hdl : (digL H).length = 32 := digL_len H
        obtain ⟨w17, q1, s1⟩ := h16.stB (b := digB H (4 * i)) (hi4 _) (sB _) (ze (4 * i)) (by rw [upTo_len (by omega)]; omega)
        rw [hs4, upTo_set (digL_get H (by omega))] at s1
        obtain ⟨w18, q2, s2⟩ := s1.stB (b := digB H (4 * i + 1)) (hi4 _) (sB _) (ze (4 * i + 1)) (by rw [upTo_len (by omega)]; omega)
        rw [hs4, upTo_set (digL_get H (by omega))] at s2
        obtain ⟨w19, q3, s3⟩ := s2.stB (b := digB H (4 * i + 2)) (hi4 _) (sB _) (ze (4 * i + 2)) (by rw [upTo_len (by omega)]; omega)
        rw [hs4, upTo_set (digL_get H (by omega))] at s3
        obtain ⟨w20, q4, s4⟩ := s3.stB (b := digB H (4 * i + 3)) (hi4 _) (sB _) (ze (4 * i + 3)) (by rw [upTo_len (by omega)]; omega)
        rw [hs4, upTo_set (digL_get H (by omega))] at s4
        refine ⟨by omega, by omega, w17, q1, by omega, by omega, w18, q2, by omega, by omega, w19, q3, by omega, by omega, w20, q4, ⟨i + 1, wrap_succ hi' (by omega), by omega, ?_⟩, mu_succ hi' (by omega)⟩
        rw [show 4 * (i + 1) = 4 * i + 3 + 1 by omega]
        exact s4
      · have hi' : i = 8 := by simp at h; omega
        subst hi'
        have hdl : (digL H).length = 32 := digL_len H
        rw [show 4 * 8 = (digL H).length by omega, upTo_all] at h16
        obtain ⟨w17, r17, h17⟩ := h16.stA (i := 1) (v := bv (digL H)) (hi1 _) (d32S _) (by simp) (by simp) (bv_one _)
        have hi1' : ((N ++ [Res.arr g15 22 (bv (digL H))]).set 1 (.arr g2 22 (bv (digL H))))[1]? = some (.arr g2 22 (bv (digL H))) := by rw [hN]; rfl
        exact ⟨_, h16.ldA (hi4 _) (d32A _) (d32S _) (by simp), w17, r17, _, h17.ldVarA hi1' (d32A _) (d32S _) (by simp), rfl, h17.chg⟩

open Go Sx
set_option maxRecDepth 8000

theorem gk_not {w0 w : World} {X : List Nat} {N : List Res} (h : St w0 X w N) (hK : KTab w0) (hX : 5 ∉ X) : 5 ∉ fpsL N := fun hx => by
  obtain ⟨r, hr, hk⟩ := List.mem_flatMap.1 hx
  have := hK.lt
  rcases h.pw.2.1 r hr _ hk with h1 | h1
  · omega
  · exact hX h1

theorem Sx.St.own_or {w0 w : World} {X : List Nat} {N : List Res} (h : St w0 X w N) : ∀ k ∈ fpsL N, w0.heap.size ≤ k ∨ k ∈ X := fun k hk => by
  obtain ⟨r, hr, hk⟩ := List.mem_flatMap.1 hk
  exact h.pw.2.1 r hr k hk

theorem RdK.step {w w1 : World} {F : List Nat} {N : List Res} {a : Option Addr} {n c : Nat} {l : List UInt8} (h : RdK F w a n c l) (hS : St w F w1 N) : RdK (fpsL N) w1 a n c l := fun w2 hc =>
  h w2 (hS.chg.trans' hc hS.own_or)

/-- write, for a state that is held besides other things. -/
theorem write_in {w0 w : World} {X : List Nat} {M : List Res} (g T : Nat) (m : List UInt8) (a : Option Addr) (c : Nat) (a1 : Option Addr) (n1 c1 : Nat) (l : List UInt8) (hK : KTab w0) (hX : 5 ∉ X) (hS : St w0 X w (M ++ hM g T m a c)) (hr : RdK (fpsL (hM g T m a c)) w a1 n1 c1 l) (hb : m.length + l.length ≤ 140737488350000) :
    Calls Tryz.prog 182 #[.pointer (some ⟨g, 0, none⟩), .slice a1 n1 c1] w fun e w' => e = .returned (.tuple #[]) ∧ ∃ a' c', St w0 X w' (M ++ hM g T (m ++ l) a' c') ∧ Chg (fpsL (hM g T m a c)) w w' := by
  have hN := hS.sub (List.sublist_append_right M _)
  refine (write_spec _ g T m a c a1 n1 c1 l w (hK.keep hS.chg hX) (gk_not hN hK hX) hN.self hr hb).mono ?_
  rintro e w' ⟨rfl, a', c', h'⟩
  exact ⟨rfl, a', c', hS.callPart h', h'.chg⟩

/-- Lists that are readable under whatever changes of some blocks. -/
structure PartsK (F : List Nat) (w : World) (a : Option Addr) (n c : Nat) (vs : List Value) (ls : List (List UInt8)) : Prop where
  rd : ∀ w', Chg F w w' → Rd w' a n c 1 vs
  row : ∀ w', Chg F w w' → Row2 w' vs ls

theorem partsK_old {w0 w : World} {N : List Res} (h : St w0 [] w N) {a : Option Addr} {n c : Nat} {vs : List Value} {ls : List (List UInt8)} (hr : Rd w0 a n c 1 vs) (h2 : Row2 w0 vs ls) : PartsK (fpsL N) w a n c vs ls :=
  ⟨fun _ hc => hr.keep0 (h.chg.trans' hc fun k hk => .inl (h.fps_own k hk)), fun _ hc => h2.keep0 (h.chg.trans' hc fun k hk => .inl (h.fps_own k hk))⟩

/-- An element that is readable whatever of some blocks changes. -/
theorem PartsK.at_ {F : List Nat} {w : World} {a : Option Addr} {n c : Nat} {vs : List Value} {ls : List (List UInt8)} (h : PartsK F w a n c vs ls) {i : Nat} (hi : i < ls.length) : ∃ b o a' n' c', a = some ⟨b, o, none⟩ ∧ RdK F w a' n' c' (ls.getD i []) ∧
    ∀ w', Chg F w w' → (Instr.loadAt 33 (.pointer (some ⟨b, o + Int.toNat (i : Int) * 1, none⟩))).run Tryz.prog w' = .ok (.slice a' n' c') w' := by
  obtain ⟨b, o, a', n', c', ha, hv, hrd, hld⟩ := ixS (h.rd w (Chg.refl _ _)).cells (h.row w (Chg.refl _ _)) hi
  refine ⟨b, o, a', n', c', ha, fun w' hc => ?_, fun w' hc => hld w' (h.rd w' hc).cells⟩
  obtain ⟨a2, n2, c2, hv2, hrd2⟩ := (h.row w' hc).rd i hi
  rw [hv] at hv2
  simp only [Option.some.injEq, Value.slice.injEq] at hv2
  obtain ⟨rfl, rfl, rfl⟩ := hv2
  exact hrd2

theorem hWrite_spec {w0 w : World} {X : List Nat} {M : List Res} (g T : Nat) (m : List UInt8) (a : Option Addr) (c : Nat) (a1 : Option Addr) (n1 c1 : Nat) (vs : List Value) (ls : List (List UInt8)) (hK : KTab w0) (hX : 5 ∉ X) (hS : St w0 X w (M ++ hM g T m a c)) (hp : PartsK (fpsL (hM g T m a c)) w a1 n1 c1 vs ls) (hb : m.length + ls.flatten.length ≤ 140737488350000) (hn : n1 ≤ 4611686018427387904) :
    Calls Tryz.prog 169 #[.pointer (some ⟨g, 0, none⟩), .slice a1 n1 c1] w fun e w' => e = .returned (.tuple #[]) ∧ ∃ a' c', St w0 X w' (M ++ hM g T (m ++ ls.flatten) a' c') ∧ Chg (fpsL (hM g T m a c)) w w' := by
  have hln : ls.length = n1 := by have := (hp.rd w (Chg.refl _ _)).len; have := (hp.row w (Chg.refl _ _)).len; omega
  have hN0 := (hS.sub (List.sublist_append_right M _)).self
  have hgk : 5 ∉ fpsL (hM g T m a c) := gk_not (hS.sub (List.sublist_append_right M _)) hK hX
  apply sha_Hasher_Write_vc
  refine ⟨fun x w' => ∃ (i : Nat) (a' : Option Addr) (c' : Nat), x = (i : Int) ∧ i ≤ n1 ∧ St w (fpsL (hM g T m a c)) w' (hM g T (m ++ (ls.take i).flatten) a' c'), fun x _ => n1 - x.toNat, ⟨0, a, c, rfl, by omega, by simpa using hN0⟩, ?_⟩
  rintro x w1 ⟨i, a', c', rfl, hi, h1⟩
  refine ⟨fun h => ?_, fun h => ?_⟩
  · have hi' : i < n1 := by simp at h; omega
    obtain ⟨b, o, a2, n2, c2, ha, hrk, hld⟩ := hp.at_ (i := i) (by omega)
    have hf1 := flat_take (ls := ls) (i := i) (by omega)
    have hf2 := flat_take_le ls (i + 1)
    have hf3 := congrArg List.length hf1
    rw [List.length_append] at hf3
    refine ⟨b, o, ha, by omega, by omega, a2, n2, c2, hld w1 h1.chg, (write_in (M := []) g T _ a' c' a2 n2 c2 _ (hK.keep hS.chg hX) hgk h1 (hrk.step h1) (by rw [List.length_append]; omega)).mono ?_⟩
    rintro e w2 ⟨rfl, a3, c3, h3, _⟩
    refine ⟨rfl, ⟨i + 1, a3, c3, wrap_succ hi' hn, by omega, ?_⟩, mu_succ hi' hn⟩
    rw [hf1, ← List.append_assoc]
    exact h3
  · have hi' : i = n1 := by simp at h; omega
    rw [hi', ← hln, List.take_length] at h1
    exact ⟨rfl, a', c', hS.callPart h1, h1.chg⟩

theorem hWrite_nil (a1 : Option Addr) (n1 c1 : Nat) (w : World) : Calls Tryz.prog 169 #[.pointer none, .slice a1 n1 c1] w fun e w' => e = .returned (.tuple #[]) ∧ w' = w := by
  apply sha_Hasher_Write_vc_nil
  exact ⟨rfl, rfl⟩
/-- A digest is laid in a variable of its own, and read again. -/
theorem hSum_spec {w0 w : World} {X : List Nat} {M : List Res} (g T : Nat) (m : List UInt8) (a : Option Addr) (c : Nat) (hK : KTab w) (hS : St w0 X w (M ++ hM g T m a c)) (hb : m.length ≤ 70368744177664) :
    Calls Tryz.prog 170 #[.pointer (some ⟨g, 0, none⟩)] w fun e w' => e = .returned (.agg (bv (shaF m)).toArray) ∧ Chg [] w w' := by
  have hN := (hS.sub (List.sublist_append_right M _)).self
  apply sha_Hasher_Sum_vc
  obtain ⟨g1, w1, r1, h1⟩ := hN.zeroA d32Z
  have hc1 : Chg [] w w1 := by
    obtain ⟨g1', w1', r1', h1'⟩ := (St.start w).zeroA d32Z
    have e := r1.symm.trans r1'
    simp only [Result.ok.injEq] at e
    obtain ⟨_, rfl⟩ := e
    exact h1'.chg
  refine ⟨_, _, r1, _, h1.ldA (i := 0) rfl (stA _) (stS _) (hsL_len (hOf_len m) _ _ _ _), (sum_val_spec m a c w1 (hK.keep0 hc1) (h1.rd (i := 1) rfl) hb).mono ?_⟩
  rintro e w2 ⟨rfl, hc2⟩
  have h0 := ((St.start w).zeroA d32Z)
  obtain ⟨g1', w1', r1', h1'⟩ := h0
  have e := r1.symm.trans r1'
  simp only [Result.ok.injEq, Value.pointer.injEq, Option.some.injEq, Addr.mk.injEq, and_true] at e
  obtain ⟨⟨rfl, _⟩, rfl⟩ := e
  have h2 := h1'.same hc2
  obtain ⟨w3, r3, h3⟩ := h2.stA (i := 0) (v := bv (shaF m)) rfl (d32S _) (by simp) (shaF_len m |> fun h => by simp [h]) (bv_one _)
  exact ⟨_, rfl, w3, r3, _, h3.ldVarA (i := 0) rfl (d32A _) (d32S _) (by simp), rfl, h3.chg⟩

theorem shaSum_spec (a : Option Addr) (n c : Nat) (vs : List Value) (ls : List (List UInt8)) (w : World) (hK : KTab w) (hr : Rd w a n c 1 vs) (h2 : Row2 w vs ls) (hb : ls.flatten.length ≤ 70368744177664) (hn : n ≤ 4611686018427387904) :
    Calls Tryz.prog 167 #[.slice a n c] w fun e w' => e = .returned (.agg (bv (shaF ls.flatten)).toArray) ∧ Chg [] w w' := by
  apply sha_Sum_vc
  obtain ⟨g1, w1, r1, h1⟩ := (St.start w).zeroA d32Z
  refine ⟨_, _, r1, (shaNew_spec w1).mono ?_⟩
  rintro e w2 ⟨g, rfl, hN2⟩
  have h2' : St w [] w2 ([.arr g1 22 (bv (List.replicate 32 0))] ++ hM g 271 [] none 0) := by
    refine St.callPart (N := []) (w := w1) (by simpa using h1) ?_
    simpa [fpsL] using hN2
  have hN := h2'.sub (List.sublist_append_right _ _)
  refine ⟨_, _, rfl, (hWrite_spec g _ [] none 0 a n c vs ls hK (by simp) h2' (partsK_old hN hr h2) (by simp only [List.length_nil]; omega) hn).mono ?_⟩
  rintro e w3 ⟨rfl, a3, c3, h3, _⟩
  rw [List.nil_append] at h3
  refine ⟨rfl, (hSum_spec g _ _ a3 c3 (hK.keep0 h3.chg) h3 hb).mono ?_⟩
  rintro e w4 ⟨rfl, hc4⟩
  have h4 := h3.same hc4
  obtain ⟨w5, r5, h5⟩ := h4.stA (i := 0) (v := bv (shaF ls.flatten)) rfl (d32S _) (by simp) (by simp) (bv_one _)
  exact ⟨_, rfl, w5, r5, _, h5.ldVarA (i := 0) (l := bv (shaF ls.flatten)) rfl (d32A _) (d32S _) (by simp), rfl, h5.chg⟩

theorem or_zero {d x y : Nat} (hd : d < 256) (hx : x < 256) (hy : y < 256) : bor .u8 (d : Int) (bxor .u8 (x : Int) (y : Int)) = ((d ||| (x ^^^ y) : Nat) : Int) ∧ d ||| (x ^^^ y) < 256 ∧ (d ||| (x ^^^ y) = 0 ↔ d = 0 ∧ x = y) := by
  have hxy : x ^^^ y < 256 := Nat.xor_lt_two_pow (n := 8) hx hy
  refine ⟨?_, Nat.or_lt_two_pow (n := 8) hd hxy, ?_⟩
  · rw [bxor_nat rfl (by simpa [kmod, IntKind.bits] using hx) (by simpa [kmod, IntKind.bits] using hy), bor_nat rfl (by simpa [kmod, IntKind.bits] using hd) (by simpa [kmod, IntKind.bits] using hxy)]
  · constructor
    · intro h
      have h1 : d = 0 := by
        have : d ≤ d ||| (x ^^^ y) := Nat.left_le_or
        omega
      have h2 : x ^^^ y = 0 := by
        have : x ^^^ y ≤ d ||| (x ^^^ y) := Nat.right_le_or
        omega
      refine ⟨h1, ?_⟩
      have h3 : (x ^^^ y) ^^^ y = 0 ^^^ y := by rw [h2]
      rwa [Nat.xor_assoc, Nat.xor_self, Nat.xor_zero, Nat.zero_xor] at h3
    · rintro ⟨rfl, rfl⟩; simp

theorem equal_spec (a : Option Addr) (n c : Nat) (l : List UInt8) (a2 : Option Addr) (n2 c2 : Nat) (l2 : List UInt8) (w : World) (hr : RdB w a n c l) (hr2 : RdB w a2 n2 c2 l2) (hb : n ≤ 4611686018427387904) :
    Calls Tryz.prog 92 #[.slice a n c, .slice a2 n2 c2] w fun e w' => e = .returned (.bool (decide (l = l2))) ∧ Chg [] w w' := by
  have hl := hr.lenB
  have hl2 := hr2.lenB
  apply sha_Equal_vc
  refine ⟨fun h => ?_, fun h => ?_⟩
  · have : l ≠ l2 := by rintro rfl; simp at h; omega
    exact ⟨by simp [this], Chg.refl _ _⟩
  · have hnn : n2 = n := by simp at h; omega
    subst hnn
    refine ⟨fun x y w' => ∃ i d : Nat, y = (i : Int) ∧ x = (d : Int) ∧ i ≤ n2 ∧ d < 256 ∧ (d = 0 ↔ l.take i = l2.take i) ∧ Chg [] w w', fun _ y _ => n2 - y.toNat, ⟨0, 0, rfl, rfl, by omega, by decide, by simp, Chg.refl _ _⟩, ?_⟩
    rintro x y w1 ⟨i, d, rfl, rfl, hi, hd, hiff, hc1⟩
    refine ⟨fun h => ?_, fun h => ?_⟩
    · have hi' : i < n2 := by simp at h; omega
      have hcd := hc1.trans (Chg.drew [] w1)
      refine ⟨fun w' => Chg [] w w', hcd, ix0 hr.cells hl i hi' fun b o ha q => ix0 hr2.cells hl2 i hi' fun b2 o2 ha2 q2 => ?_⟩
      obtain ⟨e1, e2, e3⟩ := or_zero hd (l.getD i 0).toNat_lt (l2.getD i 0).toNat_lt
      refine ⟨b, o, ha, by omega, by omega, b2, o2, ha2, by omega, by omega, _, fun w' h => q w' (hr.keep0 h).cells, _, fun w' h => q2 w' (hr2.keep0 h).cells, ⟨i + 1, _, wrap_succ hi' hb, e1, by omega, e2, ?_, hcd⟩, mu_succ hi' hb⟩
      rw [e3, hiff]
      have ht : ∀ m : List UInt8, m.length = n2 → m.take (i + 1) = m.take i ++ [m.getD i 0] := fun m hm => by
        rw [List.take_add_one, List.getElem?_eq_getElem (by omega)]; simp [List.getD, show i < m.length by omega]
      rw [ht l hl, ht l2 hl2]
      constructor
      · rintro ⟨h1, h2⟩; rw [h1, UInt8.toNat_inj.1 h2]
      · intro h1
        have := List.append_inj' h1 rfl
        exact ⟨this.1, by simpa using congrArg (fun m => (m.getD 0 0).toNat) this.2⟩
    · have hi' : i = n2 := by simp at h; omega
      subst hi'
      rw [List.take_of_length_le (by omega), List.take_of_length_le (by omega)] at hiff
      refine ⟨?_, hc1⟩
      have : (((d : Int) == 0) : Bool) = decide (l = l2) := by
        by_cases h0 : d = 0
        · subst h0; simp [hiff.1 rfl]
        · have : ¬ l = l2 := fun h => h0 (hiff.2 h)
          simp [this, h0]
      rw [this]

open Go Sx
set_option maxRecDepth 8000

theorem Row2.nil (w : World) : Row2 w [] [] := ⟨rfl, by simp⟩
theorem Row2.cons {w : World} {vs : List Value} {ls : List (List UInt8)} {a : Option Addr} {n c : Nat} {l : List UInt8} (h : RdB w a n c l) (h2 : Row2 w vs ls) : Row2 w (.slice a n c :: vs) (l :: ls) := by
  refine ⟨by simp [h2.len], fun i hi => ?_⟩
  cases i with
  | zero => exact ⟨a, n, c, rfl, h⟩
  | succ i => exact h2.rd i (by simpa using hi)

/-- []byte("..") of a row of one's own. -/
theorem convRow {w0 w : World} {M : List Res} (hS : St w0 [] w M) {i : Nat} {g n c : Nat} {l : List UInt8} (hi : M[i]? = some (.row 5 1 (.slice (some ⟨g, 0, none⟩) n c) n (bv l))) :
    ∃ w', (convert 33 33 (.slice (some ⟨g, 0, none⟩) n c)).run Tryz.prog w = .ok (.slice (some ⟨g, 0, none⟩) n c) w' ∧ Chg [] w0 w' ∧ RdB w' (some ⟨g, 0, none⟩) n c l := by
  have hown : w.ownsRow 0 5 1 (.slice (some ⟨g, 0, none⟩) n c) n (bv l) := hS.holds i _ hi
  have hge := hS.own i _ hi g (by simp [Res.fp, Value.ownBlock])
  simp only [List.not_mem_nil, or_false] at hge
  rcases hown.2 with ⟨hv, _⟩ | ⟨g', cap, cur, hv, _, hg, hle, _, hcs, ht⟩
  · simp at hv
  · simp only [Value.slice.injEq, Option.some.injEq, Addr.mk.injEq, and_true, true_and] at hv
    obtain ⟨rfl, rfl⟩ := hv
    have hglt := (Array.getElem?_eq_some_iff.1 hg).1
    refine ⟨w.freeze ⟨g, cur.size, none⟩ 1, ?_, ?_, ?_⟩
    · simp [convert, run_underlying bS, run_underlying bE, markStringish, World.shape?, hg]
    · refine hS.chg.trans' (X := []) (Y := [g]) ?_ (fun k hk => .inl (by simp at hk; omega))
      refine ⟨by simp [World.freeze], by simp [World.freeze], by simp [World.freeze], by simp [World.freeze], fun k _ hk => ?_⟩
      simp only [World.freeze, Nat.succ_ne_zero, if_false, Array.getElem?_modify]
      rw [if_neg (by simpa using fun h => hk (by simp [h]))]
    · have hg' : ∃ fr, (w.freeze ⟨g, cur.size, none⟩ 1).heap[g]? = some (.cells cur 5 fr) := by
        simp only [World.freeze, Nat.succ_ne_zero, if_false, Array.getElem?_modify, if_true, hg, Option.map_some]
        exact ⟨_, rfl⟩
      obtain ⟨fr, hg'⟩ := hg'
      have h1 := cells_blk (o := 0) (n := n) hg'
      rw [List.drop_zero, show cur.toList.take n = bv l by rw [← ht, Nat.mul_one]] at h1
      exact ⟨h1, by have := hown.1; simpa using this, hle, by simp⟩

theorem abc0 : ((shaF [97, 98, 99]).getD 0 0).toNat = 186 := by kernel_rfl
theorem abc1 : ((shaF [97, 98, 99]).getD 1 0).toNat = 120 := by kernel_rfl
theorem abc2 : ((shaF [97, 98, 99]).getD 2 0).toNat = 22 := by kernel_rfl
theorem abc3 : ((shaF [97, 98, 99]).getD 3 0).toNat = 191 := by kernel_rfl
theorem abc31 : ((shaF [97, 98, 99]).getD 31 0).toNat = 173 := by kernel_rfl

end Go.Proofs.YtmdandkoajocpaaGreatDoor
