/- '==' of snapshots (conditions: none). -/
import Derived.Test.YtdcgapabphjgbaaPruF
import Derived.Test.YtdcgapabphjgbaaEqS
import Derived.Test.YtdcgapabphjgbaaLists
namespace Go.Proofs.Ytdcgapabphjgbaa
open Go Sx
set_option maxRecDepth 8000

theorem SnapD.ext {r s : SnapD} (h1 : r.name = s.name) (h2 : r.time = s.time) (h3 : r.size = s.size) (h4 : r.chunks = s.chunks) (h5 : r.root = s.root) : r = s := by
  cases r; cases s; simp_all
theorem snap_fields : ((Try.prog.fieldsOf 30).toList.map fun f => (f.type, f.offset)) = [(9, 0), (3, 1), (3, 2), (3, 3), (28, 4)] := by kernel_rfl
theorem snap_names : ((Try.prog.fieldsOf 30).toList.all fun f => f.name != "_") = true := by kernel_rfl
theorem strEq (l m : List UInt8) : ((⟨l.toArray⟩ : ByteArray).toList == (⟨m.toArray⟩ : ByteArray).toList) = decide (l = m) := by
  rw [ByteArray.toList_eq, ByteArray.toList_eq]
  show (l == m) = decide (l = m)
  by_cases h : l = m <;> simp [h]
def snapEqB (r s : SnapD) : Bool := decide (r.name = s.name) && ((r.time == s.time) && ((r.size == s.size) && ((r.chunks == s.chunks) && (decide (r.root = s.root) && true))))
theorem snapEqB_iff (r s : SnapD) : snapEqB r s = true ↔ r = s := by
  unfold snapEqB
  simp only [Bool.and_true, Bool.and_eq_true, decide_eq_true_eq, beq_iff_eq]
  constructor
  · rintro ⟨h1, h2, h3, h4, h5⟩; exact SnapD.ext h1 h2 h3 h4 h5
  · rintro rfl; exact ⟨rfl, rfl, rfl, rfl, rfl⟩
theorem eqSnaps (x y : Operand) (r s : SnapD) (w : World) : (eqlS .eql 30 x y (.agg (snapC r).toArray) (.agg (snapC s).toArray)).run Try.prog w = .ok (.bool (snapEqB r s)) w ∧ (eqlS .neq 30 x y (.agg (snapC r).toArray) (.agg (snapC s).toArray)).run Try.prog w = .ok (.bool (!snapEqB r s)) w := by
  have hA : ∀ w, (isAgg 28).run Try.prog w = .ok true w := fun w => Try.isAgg28 w
  have hZ : ∀ w, (sizeOf 28).run Try.prog w = .ok 32 w := fun w => Try.sizeOf28 w
  have hB1 : ∀ w, (sizeOf 5).run Try.prog w = .ok 1 w := fun w => Try.sizeOf5 w
  have hiA : ∀ w, (isAgg 3).run Try.prog w = .ok false w := fun w => Try.isAgg3 w
  have hsA : ∀ w, (isAgg 9).run Try.prog w = .ok false w := fun w => Try.isAgg9 w
  have hpi : ∀ q : SnapD, (part 28 (snapC q).toArray 4).run Try.prog w = .ok (.agg (bv q.root).toArray) w := fun q => by
    have : (snapC q).toArray.extract 4 (4 + 32) = (bv q.root).toArray := by
      apply Array.ext'
      simp only [List.extract_toArray, List.extract_eq_take_drop, snapC]
      show List.take 32 (bv q.root) = _
      rw [List.take_of_length_le (by simp [q.rl])]
    simp only [part, Sem.run_bind, hA, Result.andThen_ok, if_true, hZ, Sem.run_pure, this]
  have hps : ∀ q : SnapD, (part 9 (snapC q).toArray 0).run Try.prog w = .ok (strV q.name) w := fun q => by simp [part, hsA, snapC]
  have hpn : ∀ (q : SnapD) (o : Nat) (v : Value), (snapC q)[o]? = some v → (part 3 (snapC q).toArray o).run Try.prog w = .ok v w := fun q o v h => by simp [part, hiA, h]
  have hid : (Op.equalIn 9999 28 (.agg (bv r.root).toArray) (.agg (bv s.root).toArray)).run Try.prog w = .ok (decide (r.root = s.root)) w := by
    rw [bv_ints, bv_ints]
    have := eq_arrG (P := Try.prog) (d := 9998) (T := 28) Try.underlying28 hB1 (fun w => Try.isAgg5 w) (fun a b w => by rw [run_equalIn_int w 9997 _ .u8 .u8 a b bE]) (r.root.map fun b => (b.toNat : Int)) (s.root.map fun b => (b.toNat : Int)) (by simp [r.rl]) (by simp [s.rl]) w
    simpa only [bvI_inj] using this
  have hint : ∀ a b : Int, (Op.equalIn 9999 3 (.int .i64 a) (.int .i64 b)).run Try.prog w = .ok (a == b) w := fun a b => by rw [run_equalIn_int w 9998 _ .i64 .i64 a b Try.underlying3]
  have hstr : (Op.equalIn 9999 9 (strV r.name) (strV s.name)).run Try.prog w = .ok (decide (r.name = s.name)) w := by
    rw [← strEq]
    exact run_equalIn_string w 9998 _ _ _ Try.underlying9
  have key : ∀ fs : List Field, (fs.map fun f => (f.type, f.offset)) = [(9, 0), (3, 1), (3, 2), (3, 3), (28, 4)] → (fs.all fun f => f.name != "_") = true → (Op.eqFields 9999 (snapC r).toArray (snapC s).toArray fs).run Try.prog w = .ok (snapEqB r s) w := by
    intro fs h1 h2
    rcases fs with _ | ⟨f0, _ | ⟨f1, _ | ⟨f2, _ | ⟨f3, _ | ⟨f4, _ | ⟨f5, fs⟩⟩⟩⟩⟩⟩
    case cons.cons.cons.cons.cons.nil =>
      simp only [List.map_cons, List.map_nil, List.cons.injEq, Prod.mk.injEq, and_true] at h1
      simp only [List.all_cons, List.all_nil, Bool.and_true, Bool.and_eq_true, bne_iff_ne] at h2
      obtain ⟨⟨a0, b0⟩, ⟨a1, b1⟩, ⟨a2, b2⟩, ⟨a3, b3⟩, a4, b4⟩ := h1
      obtain ⟨n0, n1, n2, n3, n4⟩ := h2
      exact eqFields_step n0 (by rw [a0, b0]; exact hps r) (by rw [a0, b0]; exact hps s) (by rw [a0]; exact hstr)
        (eqFields_step n1 (by rw [a1, b1]; exact hpn r 1 _ rfl) (by rw [a1, b1]; exact hpn s 1 _ rfl) (by rw [a1]; exact hint _ _)
        (eqFields_step n2 (by rw [a2, b2]; exact hpn r 2 _ rfl) (by rw [a2, b2]; exact hpn s 2 _ rfl) (by rw [a2]; exact hint _ _)
        (eqFields_step n3 (by rw [a3, b3]; exact hpn r 3 _ rfl) (by rw [a3, b3]; exact hpn s 3 _ rfl) (by rw [a3]; exact hint _ _)
        (eqFields_step n4 (by rw [a4, b4]; exact hpi r) (by rw [a4, b4]; exact hpi s) (by rw [a4]; exact hid) (by simp [Op.eqFields])))))
    all_goals simp at h1
  exact eqS_struct (by kernel_rfl) (by kernel_rfl) (by kernel_rfl) x y (key _ snap_fields snap_names)

end Go.Proofs.Ytdcgapabphjgbaa
