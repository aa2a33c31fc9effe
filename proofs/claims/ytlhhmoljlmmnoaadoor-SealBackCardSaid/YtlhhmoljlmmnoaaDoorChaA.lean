/- Contracts of chacha's block and of the reference's, first half: the words and the quarter rounds (conditions: those that each theorem names). -/
import Derived.Test.YtlhhmoljlmmnoaaDoorSxSeat
import Derived.Test.YtlhhmoljlmmnoaaDoorChaF
import Derived.Test.YtlhhmoljlmmnoaaDoorVcha
import Derived.Test.YtlhhmoljlmmnoaaDoorVnum
namespace Go.Proofs.YtlhhmoljlmmnoaaDoor
open Go Sx
set_option maxRecDepth 8000

theorem rot_spec (x n : Nat) (w : World) (hx : x < 4294967296) (hn : n < 32) (h0 : 0 < n) : Calls Tryd.prog 74 #[.int .u32 (x : Int), .int .i64 (n : Int)] w fun e w' => e = .returned (.int .u32 ((rotl x n : Nat) : Int)) ∧ w' = w := by
  apply bits_RotateLeft32_vc
  have h1 : band .u64 (IntKind.wrap .u64 (n : Int)) 31 = (n : Int) := by
    rw [wrap_uns rfl (by simp [kmod, IntKind.bits]; omega), show (31 : Int) = ((31 : Nat) : Int) from rfl, band_nat rfl (by simp [kmod, IntKind.bits]; omega) (by simp [kmod, IntKind.bits]), show n &&& 31 = n % 32 from Nat.and_two_pow_sub_one_eq_mod n 5, Nat.mod_eq_of_lt hn]
  have h2 : IntKind.wrap .u64 ((32 : Int) - (n : Int)) = ((32 - n : Nat) : Int) := by rw [wrap_u64]; omega
  rw [h1, h2]
  refine ⟨by omega, by omega, ?_, rfl⟩
  rw [rotl_val x n hx hn h0]

theorem left_spec (x n : Nat) (w : World) (hx : x < 4294967296) (hn : n < 32) (h0 : 0 < n) : Calls Tryd.prog 67 #[.int .u32 (x : Int), .int .u64 (n : Int)] w fun e w' => e = .returned (.int .u32 ((rotl x n : Nat) : Int)) ∧ w' = w := by
  apply amphoraref03_left_vc
  have h2 : IntKind.wrap .u64 ((32 : Int) - (n : Int)) = ((32 - n : Nat) : Int) := by rw [wrap_u64]; omega
  rw [h2]
  refine ⟨by omega, by omega, ?_, rfl⟩
  rw [rotl_val x n hx hn h0]

theorem quarter_spec (a b c d : Nat) (w : World) (hb : b < 4294967296) (hd : d < 4294967296) :
    Calls Tryd.prog 70 #[.int .u32 (a : Int), .int .u32 (b : Int), .int .u32 (c : Int), .int .u32 (d : Int)] w fun e w' => e = .returned (.tuple #[.int .u32 ((qA a b c d : Nat) : Int), .int .u32 ((qB a b c d : Nat) : Int), .int .u32 ((qC a b c d : Nat) : Int), .int .u32 ((qD a b c d : Nat) : Int)]) ∧ w' = w := by
  have l1 : hD a b d 16 < 4294967296 := rotl_lt _ (xor_lt hd (add32_lt _ _))
  have l2 : hB a b c d 16 12 < 4294967296 := rotl_lt _ (xor_lt hb (add32_lt _ _))
  apply chacha_quarter_vc
  simp only [add_val]
  rw [xor_val hd (add32_lt _ _)]
  refine (rot_spec _ 16 w (xor_lt hd (add32_lt _ _)) (by decide) (by decide)).mono ?_
  rintro e w1 ⟨rfl, rfl⟩
  refine ⟨_, rfl, ?_⟩
  simp only [add_val]
  rw [show rotl (d ^^^ add32 a b) 16 = hD a b d 16 from rfl, xor_val hb (add32_lt _ _)]
  refine (rot_spec _ 12 _ (xor_lt hb (add32_lt _ _)) (by decide) (by decide)).mono ?_
  rintro e w2 ⟨rfl, rfl⟩
  refine ⟨_, rfl, ?_⟩
  simp only [add_val]
  rw [show rotl (b ^^^ add32 c (hD a b d 16)) 12 = hB a b c d 16 12 from rfl, xor_val l1 (add32_lt _ _)]
  refine (rot_spec _ 8 _ (xor_lt l1 (add32_lt _ _)) (by decide) (by decide)).mono ?_
  rintro e w3 ⟨rfl, rfl⟩
  refine ⟨_, rfl, ?_⟩
  simp only [add_val]
  rw [xor_val l2 (add32_lt _ _)]
  refine (rot_spec _ 7 _ (xor_lt l2 (add32_lt _ _)) (by decide) (by decide)).mono ?_
  rintro e w4 ⟨rfl, rfl⟩
  exact ⟨_, rfl, rfl, rfl⟩

section
variable {w0 w : World} {X : List Nat} {M : List Res}

/-- A step 'x[i] = x[i] + x[j]' of the reference. -/
theorem aStep_vc (h : St w0 X w M) {m g : Nat} {T : TypeId} {l : List Nat} (hi : M[m]? = some (.arr g T (kv .u32 l))) (hl : l.length = 16) {i j : Nat} (ha : i < 16) (hb : j < 16) {K : World → Prop}
    (hK : ∀ w', St w0 X w' (M.set m (.arr g T (kv .u32 (aStep l i j)))) → K w') :
    ∃ S : World → Prop, S w.drew ∧ (0 ≤ (i : Int) ∧ (i : Int) < 16 ∧ (0 ≤ (j : Int) ∧ (j : Int) < 16 ∧
      (∃ t : Int, (∀ w', S w' → (Instr.loadAt 85 (.pointer (some ⟨g, 0 + Int.toNat (i : Int) * 1, none⟩))).run Tryd.prog w' = .ok (.int .u32 t) w') ∧
      (∃ t' : Int, (∀ w', S w' → (Instr.loadAt 85 (.pointer (some ⟨g, 0 + Int.toNat (j : Int) * 1, none⟩))).run Tryd.prog w' = .ok (.int .u32 t') w') ∧
        (0 ≤ (i : Int) ∧ (i : Int) < 16 ∧ (∃ w1, (Instr.storeAt 85 (.pointer (some ⟨g, 0 + Int.toNat (i : Int) * 1, none⟩)) (.int .u32 (IntKind.wrap .u32 (t + t')))).run Tryd.prog w.drew = .ok () w1 ∧ K w1)))))) := by
  have e : ∀ k : Nat, 0 + Int.toNat (k : Int) * 1 = k := fun k => by omega
  have hT : ∀ w, (isAgg 85).run Tryd.prog w = .ok false w := fun w => Tryd.isAgg85 w
  refine ⟨fun w' => St w0 X w' M, h.drew, by omega, by omega, by omega, by omega, _, fun w' h' => h'.ldK hi (hT _) (e i) (by omega), _, fun w' h' => h'.ldK hi (hT _) (e j) (by omega), by omega, by omega, ?_⟩
  rw [add_val]
  obtain ⟨w1, hr, h1⟩ := h.drew.stK (n := add32 (l.getD i 0) (l.getD j 0)) hi (Tryd.sizeOf85 _) (e i) (by omega)
  exact ⟨w1, hr, hK _ h1⟩

/-- A step 'x[i] = left(x[i]^x[j], n)' of the reference. -/
theorem xStep_vc (h : St w0 X w M) {m g : Nat} {T : TypeId} {l : List Nat} (hi : M[m]? = some (.arr g T (kv .u32 l))) (hl : l.length = 16) (hlt : Lt32 l) {i j n : Nat} (ha : i < 16) (hb : j < 16) (hn : n < 32) (h0 : 0 < n) {K : World → Prop}
    (hK : ∀ w', St w0 X w' (M.set m (.arr g T (kv .u32 (xStep l i j n)))) → K w') :
    ∃ S : World → Prop, S w.drew ∧ (0 ≤ (i : Int) ∧ (i : Int) < 16 ∧ (0 ≤ (j : Int) ∧ (j : Int) < 16 ∧
      (∃ t : Int, (∀ w', S w' → (Instr.loadAt 85 (.pointer (some ⟨g, 0 + Int.toNat (i : Int) * 1, none⟩))).run Tryd.prog w' = .ok (.int .u32 t) w') ∧
      (∃ t' : Int, (∀ w', S w' → (Instr.loadAt 85 (.pointer (some ⟨g, 0 + Int.toNat (j : Int) * 1, none⟩))).run Tryd.prog w' = .ok (.int .u32 t') w') ∧
      (Calls Tryd.prog 67 #[.int .u32 (bxor .u32 t t'), .int .u64 ((n : Nat) : Int)] w.drew fun e w2 => ∃ t2 : Int, e = .returned (.int .u32 t2) ∧
        (∃ S_2 : World → Prop, (∀ w', S_2 w' → S w') ∧ S_2 w2 ∧
        (0 ≤ (i : Int) ∧ (i : Int) < 16 ∧ (∃ w1, (Instr.storeAt 85 (.pointer (some ⟨g, 0 + Int.toNat (i : Int) * 1, none⟩)) (.int .u32 t2)).run Tryd.prog w2 = .ok () w1 ∧ K w1)))))))) := by
  have e : ∀ k : Nat, 0 + Int.toNat (k : Int) * 1 = k := fun k => by omega
  have hT : ∀ w, (isAgg 85).run Tryd.prog w = .ok false w := fun w => Tryd.isAgg85 w
  refine ⟨fun w' => St w0 X w' M, h.drew, by omega, by omega, by omega, by omega, _, fun w' h' => h'.ldK hi (hT _) (e i) (by omega), _, fun w' h' => h'.ldK hi (hT _) (e j) (by omega), ?_⟩
  rw [xor_val (hlt i) (hlt j)]
  refine (left_spec _ n _ (xor_lt (hlt i) (hlt j)) hn h0).mono ?_
  rintro e1 w2 ⟨rfl, rfl⟩
  refine ⟨_, rfl, fun w' => St w0 X w' M, fun _ h => h, h.drew, by omega, by omega, ?_⟩
  obtain ⟨w1, hr, h1⟩ := h.drew.stK (n := rotl (l.getD i 0 ^^^ l.getD j 0) n) hi (Tryd.sizeOf85 _) (e i) (by omega)
  exact ⟨w1, hr, hK _ h1⟩

end

theorem round_spec (g : Nat) (T : TypeId) (l : List Nat) (a b c d : Nat) (w : World) (hg : w.heap[g]? = some (.cells (kv .u32 l).toArray T)) (hl : l.length = 16) (hlt : Lt32 l) (ha : a < 16) (hb : b < 16) (hc : c < 16) (hd : d < 16) :
    Calls Tryd.prog 62 #[.pointer (some ⟨g, 0, none⟩), .int .i64 (a : Int), .int .i64 (b : Int), .int .i64 (c : Int), .int .i64 (d : Int)] w fun e w' => e = .returned (.tuple #[]) ∧ Chg [g] w w' ∧ w'.heap[g]? = some (.cells (kv .u32 (rnd l a b c d)).toArray T) := by
  apply amphoraref03_round_vc
  refine aStep_vc (St.ofBlk hg) (m := 0) rfl hl ha hb fun w1 h1 => ?_
  refine xStep_vc h1 (m := 0) rfl (by simp [hl]) (hlt.aStep _ _) hd ha (by decide) (by decide) fun w2 h2 => ?_
  refine aStep_vc h2 (m := 0) rfl (by simp [hl]) hc hd fun w3 h3 => ?_
  refine xStep_vc h3 (m := 0) rfl (by simp [hl]) (((hlt.aStep _ _).xStep _ _ _).aStep _ _) hb hc (by decide) (by decide) fun w4 h4 => ?_
  refine aStep_vc h4 (m := 0) rfl (by simp [hl]) ha hb fun w5 h5 => ?_
  refine xStep_vc h5 (m := 0) rfl (by simp [hl]) (((((hlt.aStep _ _).xStep _ _ _).aStep _ _).xStep _ _ _).aStep _ _) hd ha (by decide) (by decide) fun w6 h6 => ?_
  refine aStep_vc h6 (m := 0) rfl (by simp [hl]) hc hd fun w7 h7 => ?_
  refine xStep_vc h7 (m := 0) rfl (by simp [hl]) (((((((hlt.aStep _ _).xStep _ _ _).aStep _ _).xStep _ _ _).aStep _ _).xStep _ _ _).aStep _ _) hb hc (by decide) (by decide) fun w8 h8 => ?_
  exact ⟨rfl, h8.chg, h8.holds 0 _ rfl⟩

end Go.Proofs.YtlhhmoljlmmnoaaDoor
