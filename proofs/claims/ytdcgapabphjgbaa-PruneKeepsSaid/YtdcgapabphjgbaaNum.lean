/- Contracts of the package amphoranum: Copy, Kept, Num (conditions: those that each theorem names). -/
import Derived.Test.YtdcgapabphjgbaaSxSeat
import Derived.Test.YtdcgapabphjgbaaVnum
namespace Go.Proofs.Ytdcgapabphjgbaa
open Go Sx
set_option maxRecDepth 8000

/-- An error of the program: none, or a number. -/
def errV : Option Int → Value
  | none => .nilIface
  | some n => .iface 59 (.int .i64 n)

theorem eqlS_nil {T : TypeId} {m} (hT : Try.prog.underlying T = some (.interface m)) (o : Option Int) (x : Operand) (w : World) : (eqlS .eql T x (.const .nilIface) (errV o) .nilIface).run Try.prog w = .ok (.bool o.isNone) w := by
  have h1 : ∀ d, (Op.equalIn (d + 1) T .nilIface .nilIface).run Try.prog w = .ok true w := fun d => by simp [Op.equalIn, run_underlying hT]
  have h2 : ∀ d U v, (Op.equalIn (d + 1) T (.iface U v) .nilIface).run Try.prog w = .ok false w := fun d U v => by simp [Op.equalIn, run_underlying hT]
  cases o with
  | none => simp [eqlS, eqGuard, errV, binOp, Op.equal, show Op.maxDepth = 9999 + 1 from rfl, h1 9999]
  | some n => simp [eqlS, eqGuard, errV, binOp, Op.equal, show Op.maxDepth = 9999 + 1 from rfl, h2 9999]

theorem neqS_nil {T : TypeId} {m} (hT : Try.prog.underlying T = some (.interface m)) (o : Option Int) (x : Operand) (w : World) : (eqlS .neq T x (.const .nilIface) (errV o) .nilIface).run Try.prog w = .ok (.bool o.isSome) w := by
  have h1 : ∀ d, (Op.equalIn (d + 1) T .nilIface .nilIface).run Try.prog w = .ok true w := fun d => by simp [Op.equalIn, run_underlying hT]
  have h2 : ∀ d U v, (Op.equalIn (d + 1) T (.iface U v) .nilIface).run Try.prog w = .ok false w := fun d U v => by simp [Op.equalIn, run_underlying hT]
  cases o with
  | none => simp [eqlS, eqGuard, errV, binOp, Op.equal, show Op.maxDepth = 9999 + 1 from rfl, h1 9999]
  | some n => simp [eqlS, eqGuard, errV, binOp, Op.equal, show Op.maxDepth = 9999 + 1 from rfl, h2 9999]

theorem eI : ∃ m, Try.prog.underlying 34 = some (.interface m) := ⟨_, Try.underlying34⟩

/-- A copy with two marks in its spare room. -/
structure MarkB (w : World) (g : Nat) (n c : Nat) (l : List UInt8) (cur : Array Value) : Prop where
  blk : w.heap[g]? = some (.cells cur 5 (0, 0))
  len : l.length = n
  le : n + 2 ≤ c
  size : c = cur.size
  cells : cur.toList.take (n + 2) = bv (l ++ [0xa5, 0x5a])
  cm : c ≤ maxLen

theorem MarkB.rd {w : World} {g n c : Nat} {l : List UInt8} {cur : Array Value} (h : MarkB w g n c l cur) : RdB w (some ⟨g, 0, none⟩) n c l := by
  have hl := h.len
  refine ⟨?_, by simp [hl], by have := h.le; omega, by simp⟩
  have h1 := cells_blk (o := 0) (n := n) h.blk
  have h2 : (cur.toList.drop 0).take n = bv l := by
    have := congrArg (List.take n) h.cells
    rw [List.take_take, Nat.min_eq_left (by omega), bv_append, List.take_left' (by simp [hl])] at this
    simpa using this
  rw [h2] at h1
  exact h1

theorem MarkB.at_ {w : World} {g n c : Nat} {l : List UInt8} {cur : Array Value} (h : MarkB w g n c l cur) {i : Nat} (hi : i < n + 2) : w.cell? ⟨g, i, none⟩ = some (.int .u8 (((l ++ [0xa5, 0x5a]).getD i 0).toNat : Int)) := by
  rw [cell_of_row w g i cur _ _ h.blk]
  have h1 : cur.toList[i]? = (bv (l ++ [0xa5, 0x5a]))[i]? := by rw [← h.cells, List.getElem?_take, if_pos hi]
  have h2 : i < (l ++ [0xa5, 0x5a]).length := by have := h.len; simp; omega
  rw [← Array.getElem?_toList, h1, bv_get, List.getD, List.getElem?_eq_getElem h2]
  rfl

theorem MarkB.keep {w w' : World} {g n c : Nat} {l : List UInt8} {cur : Array Value} (h : MarkB w g n c l cur) (hb : w'.heap[g]? = w.heap[g]?) : MarkB w' g n c l cur := ⟨by rw [hb]; exact h.blk, h.len, h.le, h.size, h.cells, h.cm⟩

/-- A copy is a row of its own. -/
theorem MarkB.of_blk' {w w' : World} {g n c : Nat} {l : List UInt8} {cur : Array Value} (h : MarkB w g n c l cur) (hb : w'.heap[g]? = some (.cells cur 5 (0, 0))) : MarkB w' g n c l cur := ⟨hb, h.len, h.le, h.size, h.cells, h.cm⟩
theorem MarkB.row {w : World} {g n c : Nat} {l : List UInt8} {cur : Array Value} (h : MarkB w g n c l cur) {b : Nat} (hb : b ≤ g) : w.ownsRow b 5 1 (.slice (some ⟨g, 0, none⟩) n c) n (bv l) := by
  have hl := h.len
  refine ⟨by simp [hl], .inr ⟨g, c, cur, rfl, hb, h.blk, by have := h.le; omega, h.cm, by have := h.size; omega, ?_⟩⟩
  have := congrArg (List.take n) h.cells
  rw [List.take_take, Nat.min_eq_left (by omega), bv_append, List.take_left' (by simp [hl])] at this
  simpa using this

theorem num_spec (o : Option Int) (w : World) (h0 : o ≠ some 0) : Calls Try.prog 16 #[errV o] w fun e w' => e = .returned (.int .i64 (o.getD 0)) ∧ w' = w := by
  cases o with
  | none => exact amphoranum_Num_vc_nil w _ ⟨rfl, rfl⟩
  | some n =>
    have hn : (n == 0) = false := by simpa using fun e => h0 (by rw [e])
    exact amphoranum_Num_vc_err n w _ ⟨fun h => (by rw [hn] at h; cases h), fun _ => ⟨rfl, rfl⟩⟩

end Go.Proofs.Ytdcgapabphjgbaa
