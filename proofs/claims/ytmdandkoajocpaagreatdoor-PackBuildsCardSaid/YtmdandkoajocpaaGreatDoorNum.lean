/- Contracts, several texts in one (conditions: those that each theorem names). -/
import Derived.Test.YtmdandkoajocpaaGreatDoorSxSeat
import Derived.Test.YtmdandkoajocpaaGreatDoorVnum
namespace Go.Proofs.YtmdandkoajocpaaGreatDoor
open Go Sx
set_option maxRecDepth 8000

/-- An error of the program: none, or a number. -/
def errV : Option Int → Value
  | none => .nilIface
  | some n => .iface 69 (.int .i64 n)

theorem eqlS_nil {T : TypeId} {m} (hT : Tryz.prog.underlying T = some (.interface m)) (o : Option Int) (x : Operand) (w : World) : (eqlS .eql T x (.const .nilIface) (errV o) .nilIface).run Tryz.prog w = .ok (.bool o.isNone) w := by
  have h1 : ∀ d, (Op.equalIn (d + 1) T .nilIface .nilIface).run Tryz.prog w = .ok true w := fun d => by simp [Op.equalIn, run_underlying hT]
  have h2 : ∀ d U v, (Op.equalIn (d + 1) T (.iface U v) .nilIface).run Tryz.prog w = .ok false w := fun d U v => by simp [Op.equalIn, run_underlying hT]
  cases o with
  | none => simp [eqlS, eqGuard, errV, binOp, Op.equal, show Op.maxDepth = 9999 + 1 from rfl, h1 9999]
  | some n => simp [eqlS, eqGuard, errV, binOp, Op.equal, show Op.maxDepth = 9999 + 1 from rfl, h2 9999]

theorem neqS_nil {T : TypeId} {m} (hT : Tryz.prog.underlying T = some (.interface m)) (o : Option Int) (x : Operand) (w : World) : (eqlS .neq T x (.const .nilIface) (errV o) .nilIface).run Tryz.prog w = .ok (.bool o.isSome) w := by
  have h1 : ∀ d, (Op.equalIn (d + 1) T .nilIface .nilIface).run Tryz.prog w = .ok true w := fun d => by simp [Op.equalIn, run_underlying hT]
  have h2 : ∀ d U v, (Op.equalIn (d + 1) T (.iface U v) .nilIface).run Tryz.prog w = .ok false w := fun d U v => by simp [Op.equalIn, run_underlying hT]
  cases o with
  | none => simp [eqlS, eqGuard, errV, binOp, Op.equal, show Op.maxDepth = 9999 + 1 from rfl, h1 9999]
  | some n => simp [eqlS, eqGuard, errV, binOp, Op.equal, show Op.maxDepth = 9999 + 1 from rfl, h2 9999]

theorem eI : ∃ m, Tryz.prog.underlying 36 = some (.interface m) := ⟨_, Tryz.underlying36⟩

/-- A copy with two marks in its spare room. -/
structure MarkB (w : World) (g : Nat) (n c : Nat) (l : List UInt8) (cur : Array Value) : Prop where
  blk : w.heap[g]? = some (.cells cur 5 (0, 0))
  len : l.length = n
  le : n + 2 ≤ c
  size : c = cur.size
  cells : cur.toList.take (n + 2) = bv (l ++ [0xa5, 0x5a])
  cm : c ≤ maxLen

theorem copy_spec (a : Option Addr) (n c : Nat) (l : List UInt8) (w : World) (hr : RdB w a n c l) (hb : n ≤ 140737488355000) :
    Calls Tryz.prog 38 #[.slice a n c] w fun e w' => ∃ g c' cur, e = .returned (.slice (some ⟨g, 0, none⟩) n c') ∧ Chg [] w w' ∧ w.heap.size ≤ g ∧ MarkB w' g n c' l cur := by
  apply amphoranum_Copy_vc
  have hw1 : IntKind.wrap .i64 ((n : Int) + 2) = ((n + 2 : Nat) : Int) := by rw [wrap_i64 (by omega) (by omega)]; rfl
  rw [hw1]
  obtain ⟨g, w1, hr1, h1⟩ := (St.start w).mk0n (kl := .i64) (kc := .i64) (c := n + 2) bT (by omega) (by omega)
  refine ⟨_, _, _, _, hr1, ?_⟩
  obtain ⟨va, vc, w2, hr2, h2, hin2, _⟩ := h1.append (i := 0) (ty := 33) bT rfl (h1.rd1 hr) (bv_one l) (by omega) (by simp only [maxLen]; omega)
  obtain ⟨rfl, rfl⟩ := hin2 (by omega)
  rw [Nat.zero_add] at hr2 h2
  refine ⟨_, _, _, _, hr2, ?_⟩
  obtain ⟨g3, w3, hr3, h3⟩ := h2.lit bT [.int .u8 165, .int .u8 90] (by simp [Value.oneCell']) (by simp)
  refine ⟨_, _, _, _, hr3, ?_⟩
  obtain ⟨va, vc, w4, hr4, h4, hin4, _⟩ := h3.append (i := 0) (ty := 33) bT rfl (h3.rd (i := 1) rfl) (by simp [Value.oneCell']) (by simp; omega) (by simp only [maxLen, List.length_cons, List.length_nil]; omega)
  obtain ⟨rfl, rfl⟩ := hin4 (by simp)
  have hrow := h4.freshRow (i := 0) rfl
  rcases hrow.2 with ⟨hv, _⟩ | ⟨g', cap, cur, hv, hg, hh, hle, hcm, hcs, ht⟩
  · simp at hv
  · simp only [Value.slice.injEq] at hv
    obtain ⟨e1, _, rfl⟩ := hv
    simp only [Option.some.injEq, Addr.mk.injEq, and_true, true_and] at e1
    subst e1
    exact ⟨_, _, _, _, hr4, by omega, by omega, _, _, _, rfl, h4.chg, hg, hh, hr.lenB, by omega, by omega, by simpa [bv] using ht, hcm⟩

theorem MarkB.rd {w : World} {g n c : Nat} {l : List UInt8} {cur : Array Value} (h : MarkB w g n c l cur) : RdB w (some ⟨g, 0, none⟩) n c l := by
  have hl := h.len
  refine ⟨?_, by simp [hl], by have := h.le; omega, by simp⟩
  have h1 := cells_blk (o := 0) (n := n) h.blk
  have h2 : (cur.toList.drop 0).take n = bv l := by
    have := congrArg (List.take n) h.cells
    rw [List.take_take, Nat.min_eq_left (by omega), bv_append, List.take_left' (by simp [hl])] at this
    simpa using this
  rw [h2] at h1
  exact h1

theorem MarkB.at_ {w : World} {g n c : Nat} {l : List UInt8} {cur : Array Value} (h : MarkB w g n c l cur) {i : Nat} (hi : i < n + 2) : w.cell? ⟨g, i, none⟩ = some (.int .u8 (((l ++ [0xa5, 0x5a]).getD i 0).toNat : Int)) := by
  rw [cell_of_row w g i cur _ _ h.blk]
  have h1 : cur.toList[i]? = (bv (l ++ [0xa5, 0x5a]))[i]? := by rw [← h.cells, List.getElem?_take, if_pos hi]
  have h2 : i < (l ++ [0xa5, 0x5a]).length := by have := h.len; simp; omega
  rw [← Array.getElem?_toList, h1, bv_get, List.getD, List.getElem?_eq_getElem h2]
  rfl

theorem MarkB.keep {w w' : World} {g n c : Nat} {l : List UInt8} {cur : Array Value} (h : MarkB w g n c l cur) (hb : w'.heap[g]? = w.heap[g]?) : MarkB w' g n c l cur := ⟨by rw [hb]; exact h.blk, h.len, h.le, h.size, h.cells, h.cm⟩

/-- A copy is a row of its own. -/
theorem MarkB.of_blk' {w w' : World} {g n c : Nat} {l : List UInt8} {cur : Array Value} (h : MarkB w g n c l cur) (hb : w'.heap[g]? = some (.cells cur 5 (0, 0))) : MarkB w' g n c l cur := ⟨hb, h.len, h.le, h.size, h.cells, h.cm⟩
theorem MarkB.row {w : World} {g n c : Nat} {l : List UInt8} {cur : Array Value} (h : MarkB w g n c l cur) {b : Nat} (hb : b ≤ g) : w.ownsRow b 5 1 (.slice (some ⟨g, 0, none⟩) n c) n (bv l) := by
  have hl := h.len
  refine ⟨by simp [hl], .inr ⟨g, c, cur, rfl, hb, h.blk, by have := h.le; omega, h.cm, by have := h.size; omega, ?_⟩⟩
  have := congrArg (List.take n) h.cells
  rw [List.take_take, Nat.min_eq_left (by omega), bv_append, List.take_left' (by simp [hl])] at this
  simpa using this

theorem kept_spec (g n c : Nat) (a2 : Option Addr) (n2 c2 : Nat) (l : List UInt8) (cur : Array Value) (w : World) (hm : MarkB w g n c l cur) (hr : RdB w a2 n2 c2 l) (hb : n ≤ 140737488355000) :
    Calls Tryz.prog 15 #[.slice (some ⟨g, 0, none⟩) n c, .slice a2 n2 c2] w fun e w' => e = .returned (.bool true) ∧ w' = w := by
  have hl := hm.len
  have hl2 := hr.lenB
  obtain rfl : n2 = n := by omega
  have hle := hm.le
  apply amphoranum_Kept_vc
  have hw2 : IntKind.wrap .i64 ((n2 : Int) + 2) = ((n2 + 2 : Nat) : Int) := by rw [wrap_i64 (by omega) (by omega)]; rfl
  have hw1 : IntKind.wrap .i64 ((n2 : Int) + 1) = ((n2 + 1 : Nat) : Int) := by rw [wrap_i64 (by omega) (by omega)]; rfl
  rw [hw2, hw1]
  refine ⟨_, toStr bS bE sS hm.rd.cells hl, _, toStr bS bE sS hr.cells hl2, fun h => ?_, fun _ => ?_⟩
  · simp at h; omega
  · refine ⟨by omega, by omega, g, 0, rfl, by omega, by simp only [Int.toNat_natCast]; omega, _, ld1 (bA _) (by simpa using hm.at_ (i := n2) (by omega)), fun _ => ?_, fun h => ?_⟩
    · refine ⟨g, 0, rfl, by omega, by simp only [Int.toNat_natCast]; omega, _, ld1 (bA _) (by simpa using hm.at_ (i := n2 + 1) (by omega)), ?_, rfl⟩
      have : (l ++ [0xa5, 0x5a])[n2 + 1]? = some 0x5a := by rw [List.getElem?_append_right (by omega), hl]; simp
      simp [List.getD, this]
    · have : (l ++ [0xa5, 0x5a])[n2]? = some 0xa5 := by rw [List.getElem?_append_right (by omega), hl]; simp
      simp [List.getD, this] at h

theorem num_spec (o : Option Int) (w : World) (h0 : o ≠ some 0) : Calls Tryz.prog 14 #[errV o] w fun e w' => e = .returned (.int .i64 (o.getD 0)) ∧ w' = w := by
  cases o with
  | none => exact amphoranum_Num_vc_nil w _ ⟨rfl, rfl⟩
  | some n =>
    have hn : (n == 0) = false := by simpa using fun e => h0 (by rw [e])
    exact amphoranum_Num_vc_err n w _ ⟨fun h => (by rw [hn] at h; cases h), fun _ => ⟨rfl, rfl⟩⟩

open Go Sx
set_option maxRecDepth 8000

theorem eqlS_err {T : TypeId} {m} (hT : Tryz.prog.underlying T = some (.interface m)) (o : Option Int) (n : Int) (x y : Operand) (w : World) : (eqlS .eql T x y (errV o) (.iface 69 (.int .i64 n))).run Tryz.prog w = .ok (.bool (decide (o = some n))) w := by
  have hE := Tryz.underlying69
  have hI : (typeInfo 69).run Tryz.prog w = .ok Tryz.t69 w := by
    simp [typeInfo, show Tryz.prog.info? 69 = some Tryz.t69 by kernel_rfl]
  have hc : Tryz.t69.comparable = true := by kernel_rfl
  have h1 : ∀ d k, (Op.equalIn (d + 2) T (.iface 69 (.int .i64 k)) (.iface 69 (.int .i64 n))).run Tryz.prog w = .ok (k == n) w := fun d k => by
    simp [Op.equalIn, run_underlying hT, run_underlying hE, hI, hc]
  have h2 : ∀ d U v, (Op.equalIn (d + 1) T .nilIface (.iface U v)).run Tryz.prog w = .ok false w := fun d U v => by simp [Op.equalIn, run_underlying hT]
  cases o with
  | none => simp [eqlS, eqGuard, errV, binOp, Op.equal, show Op.maxDepth = 9999 + 1 from rfl, h2 9999]
  | some k =>
    have h3 : (some k = some n) = (k = n) := by simp
    simp only [h3]
    have h4 : decide (k = n) = (k == n) := rfl
    rw [h4]
    simp [eqlS, eqGuard, errV, binOp, Op.equal, show Op.maxDepth = 9998 + 2 from rfl, h1 9998]

end Go.Proofs.YtmdandkoajocpaaGreatDoor
