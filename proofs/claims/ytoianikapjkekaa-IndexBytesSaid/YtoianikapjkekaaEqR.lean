/- '==' of two refs and of two identifiers (conditions: none). -/
import Derived.Test.YtoianikapjkekaaIndC
import Derived.Test.YtoianikapjkekaaEqS
namespace Go.Proofs.Ytoianikapjkekaa
open Go Sx
set_option maxRecDepth 8000

theorem sB1' (w : World) : (sizeOf 5).run Try.prog w = .ok 1 w := Try.sizeOf5 w
theorem eqIds (x y : Operand) (l m : List UInt8) (hl : l.length = 32) (hm : m.length = 32) (w : World) : (eqlS .eql 40 x y (.agg (bv l).toArray) (.agg (bv m).toArray)).run Try.prog w = .ok (.bool (decide (l = m))) w ∧ (eqlS .neq 40 x y (.agg (bv l).toArray) (.agg (bv m).toArray)).run Try.prog w = .ok (.bool (!decide (l = m))) w := by
  rw [bv_ints, bv_ints]
  have := eqlS_arrG (P := Try.prog) (T := 40) Try.underlying40 bE sB1' (fun w => Try.isAgg5 w) (by kernel_rfl) x y (l.map fun b => (b.toNat : Int)) (m.map fun b => (b.toNat : Int)) (by simp [hl]) (by simp [hm]) w
  simpa only [bvI_inj] using this

theorem ref_fields : ((Try.prog.fieldsOf 52).toList.map fun f => (f.type, f.offset)) = [(40, 0), (3, 32), (3, 33), (3, 34)] := by kernel_rfl
theorem ref_names : ((Try.prog.fieldsOf 52).toList.all fun f => f.name != "_") = true := by kernel_rfl

def refEqB (r s : RefD) : Bool := decide (r.id = s.id) && ((r.pack == s.pack) && ((r.at_ == s.at_) && ((r.len == s.len) && true)))
theorem refEqB_iff (r s : RefD) : refEqB r s = true ↔ r = s := by
  unfold refEqB
  simp only [Bool.and_true, Bool.and_eq_true, decide_eq_true_eq, beq_iff_eq]
  constructor
  · rintro ⟨h1, h2, h3, h4⟩; exact RefD.ext h1 h2 h3 h4
  · rintro rfl; exact ⟨rfl, rfl, rfl, rfl⟩

theorem eqRefs (x y : Operand) (r s : RefD) (w : World) : (eqlS .eql 52 x y (.agg (refC r).toArray) (.agg (refC s).toArray)).run Try.prog w = .ok (.bool (refEqB r s)) w ∧ (eqlS .neq 52 x y (.agg (refC r).toArray) (.agg (refC s).toArray)).run Try.prog w = .ok (.bool (!refEqB r s)) w := by
  have hpi : ∀ q : RefD, (part 40 (refC q).toArray 0).run Try.prog w = .ok (.agg (bv q.id).toArray) w := fun q => by
    have : (refC q).toArray.extract 0 (0 + 32) = (bv q.id).toArray := by
      apply Array.ext'
      simp only [List.extract_toArray, List.extract_eq_take_drop, List.drop_zero, refC]
      rw [List.take_left']
      simp [q.idl]
    simp only [part, Sem.run_bind, idA', Result.andThen_ok, if_true, idS', Sem.run_pure, this]
  have hpn : ∀ (q : RefD) (o : Nat) (v : Value), (refC q)[o]? = some v → (part 3 (refC q).toArray o).run Try.prog w = .ok v w := fun q o v h => by
    simp [part, inA, h]
  have i1 : ∀ q : RefD, (refC q)[32]? = some (.int .i64 q.pack) ∧ (refC q)[33]? = some (.int .i64 q.at_) ∧ (refC q)[34]? = some (.int .i64 q.len) := fun q => by
    refine ⟨?_, ?_, ?_⟩ <;> rw [refC, List.getElem?_append_right (by simp [q.idl])] <;> simp [q.idl]
  have hid : (Op.equalIn 9999 40 (.agg (bv r.id).toArray) (.agg (bv s.id).toArray)).run Try.prog w = .ok (decide (r.id = s.id)) w := by
    rw [bv_ints, bv_ints]
    have := eq_arrG (P := Try.prog) (d := 9998) (T := 40) Try.underlying40 sB1' (fun w => Try.isAgg5 w) (fun a b w => by rw [run_equalIn_int w 9997 _ .u8 .u8 a b bE]) (r.id.map fun b => (b.toNat : Int)) (s.id.map fun b => (b.toNat : Int)) (by simp [r.idl]) (by simp [s.idl]) w
    simpa only [bvI_inj] using this
  have hint : ∀ a b : Int, (Op.equalIn 9999 3 (.int .i64 a) (.int .i64 b)).run Try.prog w = .ok (a == b) w := fun a b => by rw [run_equalIn_int w 9998 _ .i64 .i64 a b Try.underlying3]
  have key : ∀ fs : List Field, (fs.map fun f => (f.type, f.offset)) = [(40, 0), (3, 32), (3, 33), (3, 34)] → (fs.all fun f => f.name != "_") = true → (Op.eqFields 9999 (refC r).toArray (refC s).toArray fs).run Try.prog w = .ok (refEqB r s) w := by
    intro fs h1 h2
    rcases fs with _ | ⟨f0, _ | ⟨f1, _ | ⟨f2, _ | ⟨f3, _ | ⟨f4, fs⟩⟩⟩⟩⟩
    case cons.cons.cons.cons.nil =>
      simp only [List.map_cons, List.map_nil, List.cons.injEq, Prod.mk.injEq, and_true] at h1
      simp only [List.all_cons, List.all_nil, Bool.and_true, Bool.and_eq_true, bne_iff_ne] at h2
      obtain ⟨⟨a0, b0⟩, ⟨a1, b1⟩, ⟨a2, b2⟩, a3, b3⟩ := h1
      obtain ⟨n0, n1, n2, n3⟩ := h2
      exact eqFields_step n0 (by rw [a0, b0]; exact hpi r) (by rw [a0, b0]; exact hpi s) (by rw [a0]; exact hid)
        (eqFields_step n1 (by rw [a1, b1]; exact hpn r 32 _ (i1 r).1) (by rw [a1, b1]; exact hpn s 32 _ (i1 s).1) (by rw [a1]; exact hint _ _)
        (eqFields_step n2 (by rw [a2, b2]; exact hpn r 33 _ (i1 r).2.1) (by rw [a2, b2]; exact hpn s 33 _ (i1 s).2.1) (by rw [a2]; exact hint _ _)
        (eqFields_step n3 (by rw [a3, b3]; exact hpn r 34 _ (i1 r).2.2) (by rw [a3, b3]; exact hpn s 34 _ (i1 s).2.2) (by rw [a3]; exact hint _ _) (by simp [Op.eqFields]))))
    all_goals simp at h1
  exact eqS_struct (by kernel_rfl) (by kernel_rfl) (by kernel_rfl) x y (key _ ref_fields ref_names)

end Go.Proofs.Ytoianikapjkekaa
