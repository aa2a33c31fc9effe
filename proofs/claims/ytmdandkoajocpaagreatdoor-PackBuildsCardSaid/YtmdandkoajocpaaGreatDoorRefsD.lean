/- Refs in memory; '==' of refs; Same (conditions: those that each theorem names). -/
import Derived.Test.YtmdandkoajocpaaGreatDoorSxMem
import Derived.Test.YtmdandkoajocpaaGreatDoorEqS
import Derived.Test.YtmdandkoajocpaaGreatDoorLists
import Derived.Test.YtmdandkoajocpaaGreatDoorVref13
namespace Go.Proofs.YtmdandkoajocpaaGreatDoor
open Go Sx
set_option maxRecDepth 8000

/-- A ref. -/
structure RefD where
  id : List UInt8
  pack : Int
  at_ : Int
  len : Int
  idl : id.length = 32
  pk : -9223372036854775808 ≤ pack ∧ pack ≤ 9223372036854775807
  ak : -9223372036854775808 ≤ at_ ∧ at_ ≤ 9223372036854775807
  lk : -9223372036854775808 ≤ len ∧ len ≤ 9223372036854775807
def ref0 : RefD := ⟨List.replicate 32 0, 0, 0, 0, by simp, by omega, by omega, by omega⟩
instance : Inhabited RefD := ⟨ref0⟩
def refC (r : RefD) : List Value := bv r.id ++ [.int .i64 r.pack, .int .i64 r.at_, .int .i64 r.len]
@[simp] theorem refC_len (r : RefD) : (refC r).length = 35 := by simp [refC, r.idl]
theorem refC_one (r : RefD) : ∀ v ∈ refC r, v.oneCell' = true := fun v hv => by
  simp only [refC, List.mem_append, List.mem_cons, List.not_mem_nil, or_false] at hv
  rcases hv with hv | rfl | rfl | rfl
  · exact bv_one _ v hv
  · rfl
  · rfl
  · rfl
theorem RefD.ext {r s : RefD} (h1 : r.id = s.id) (h2 : r.pack = s.pack) (h3 : r.at_ = s.at_) (h4 : r.len = s.len) : r = s := by
  cases r; cases s; simp_all

theorem idA' (w : World) : (isAgg 44).run Tryz.prog w = .ok true w := Tryz.isAgg44 w

theorem idS' (w : World) : (sizeOf 44).run Tryz.prog w = .ok 32 w := Tryz.sizeOf44 w

abbrev Refs := List RefD

theorem rfA (w : World) : (isAgg 75).run Tryz.prog w = .ok true w := Tryz.isAgg75 w

theorem rfS (w : World) : (sizeOf 75).run Tryz.prog w = .ok 35 w := Tryz.sizeOf75 w

theorem inA (w : World) : (isAgg 3).run Tryz.prog w = .ok false w := Tryz.isAgg3 w

section
variable {w0 w w' : World} {X : List Nat}
theorem refFld {M : List Res} {i g : Nat} {T : TypeId} {r : RefD} (h : St w0 X w M) (hi : M[i]? = some (.arr g T (refC r))) :
    (Instr.loadAt 3 (.pointer (some ⟨g, 32, none⟩))).run Tryz.prog w = .ok (.int .i64 r.pack) w ∧ (Instr.loadAt 3 (.pointer (some ⟨g, 33, none⟩))).run Tryz.prog w = .ok (.int .i64 r.at_) w ∧ (Instr.loadAt 3 (.pointer (some ⟨g, 34, none⟩))).run Tryz.prog w = .ok (.int .i64 r.len) w := by
  refine ⟨h.ldL hi (inA _) rfl ?_, h.ldL hi (inA _) rfl ?_, h.ldL hi (inA _) rfl ?_⟩ <;> rw [refC, List.getElem?_append_right (by simp [r.idl])] <;> simp [r.idl]
end

abbrev RdR (w : World) (a : Option Addr) (n c : Nat) (l : Refs) : Prop := RdE refC 35 w a n c l

theorem rfT : ElemT Tryz.prog 34 75 35 56 (.agg (refC ref0).toArray) := ⟨by kernel_rfl, ⟨Tryz.t75, by kernel_rfl, by kernel_rfl, by kernel_rfl, by kernel_rfl⟩, rfl, by decide⟩

theorem sB1' (w : World) : (sizeOf 5).run Tryz.prog w = .ok 1 w := Tryz.sizeOf5 w
theorem eqIds (x y : Operand) (l m : List UInt8) (hl : l.length = 32) (hm : m.length = 32) (w : World) : (eqlS .eql 44 x y (.agg (bv l).toArray) (.agg (bv m).toArray)).run Tryz.prog w = .ok (.bool (decide (l = m))) w ∧ (eqlS .neq 44 x y (.agg (bv l).toArray) (.agg (bv m).toArray)).run Tryz.prog w = .ok (.bool (!decide (l = m))) w := by
  rw [bv_ints, bv_ints]
  have := eqlS_arrG (P := Tryz.prog) (T := 44) Tryz.underlying44 bE sB1' (fun w => Tryz.isAgg5 w) (by kernel_rfl) x y (l.map fun b => (b.toNat : Int)) (m.map fun b => (b.toNat : Int)) (by simp [hl]) (by simp [hm]) w
  simpa only [bvI_inj] using this

theorem ref_fields : ((Tryz.prog.fieldsOf 75).toList.map fun f => (f.type, f.offset)) = [(44, 0), (3, 32), (3, 33), (3, 34)] := by kernel_rfl
theorem ref_names : ((Tryz.prog.fieldsOf 75).toList.all fun f => f.name != "_") = true := by kernel_rfl

def refEqB (r s : RefD) : Bool := decide (r.id = s.id) && ((r.pack == s.pack) && ((r.at_ == s.at_) && ((r.len == s.len) && true)))
theorem refEqB_iff (r s : RefD) : refEqB r s = true ↔ r = s := by
  unfold refEqB
  simp only [Bool.and_true, Bool.and_eq_true, decide_eq_true_eq, beq_iff_eq]
  constructor
  · rintro ⟨h1, h2, h3, h4⟩; exact RefD.ext h1 h2 h3 h4
  · rintro rfl; exact ⟨rfl, rfl, rfl, rfl⟩

theorem eqRefs (x y : Operand) (r s : RefD) (w : World) : (eqlS .eql 75 x y (.agg (refC r).toArray) (.agg (refC s).toArray)).run Tryz.prog w = .ok (.bool (refEqB r s)) w ∧ (eqlS .neq 75 x y (.agg (refC r).toArray) (.agg (refC s).toArray)).run Tryz.prog w = .ok (.bool (!refEqB r s)) w := by
  have hpi : ∀ q : RefD, (part 44 (refC q).toArray 0).run Tryz.prog w = .ok (.agg (bv q.id).toArray) w := fun q => by
    have : (refC q).toArray.extract 0 (0 + 32) = (bv q.id).toArray := by
      apply Array.ext'
      simp only [List.extract_toArray, List.extract_eq_take_drop, List.drop_zero, refC]
      rw [List.take_left']
      simp [q.idl]
    simp only [part, Sem.run_bind, idA', Result.andThen_ok, if_true, idS', Sem.run_pure, this]
  have hpn : ∀ (q : RefD) (o : Nat) (v : Value), (refC q)[o]? = some v → (part 3 (refC q).toArray o).run Tryz.prog w = .ok v w := fun q o v h => by
    simp [part, inA, h]
  have i1 : ∀ q : RefD, (refC q)[32]? = some (.int .i64 q.pack) ∧ (refC q)[33]? = some (.int .i64 q.at_) ∧ (refC q)[34]? = some (.int .i64 q.len) := fun q => by
    refine ⟨?_, ?_, ?_⟩ <;> rw [refC, List.getElem?_append_right (by simp [q.idl])] <;> simp [q.idl]
  have hid : (Op.equalIn 9999 44 (.agg (bv r.id).toArray) (.agg (bv s.id).toArray)).run Tryz.prog w = .ok (decide (r.id = s.id)) w := by
    rw [bv_ints, bv_ints]
    have := eq_arrG (P := Tryz.prog) (d := 9998) (T := 44) Tryz.underlying44 sB1' (fun w => Tryz.isAgg5 w) (fun a b w => by rw [run_equalIn_int w 9997 _ .u8 .u8 a b bE]) (r.id.map fun b => (b.toNat : Int)) (s.id.map fun b => (b.toNat : Int)) (by simp [r.idl]) (by simp [s.idl]) w
    simpa only [bvI_inj] using this
  have hint : ∀ a b : Int, (Op.equalIn 9999 3 (.int .i64 a) (.int .i64 b)).run Tryz.prog w = .ok (a == b) w := fun a b => by rw [run_equalIn_int w 9998 _ .i64 .i64 a b Tryz.underlying3]
  have key : ∀ fs : List Field, (fs.map fun f => (f.type, f.offset)) = [(44, 0), (3, 32), (3, 33), (3, 34)] → (fs.all fun f => f.name != "_") = true → (Op.eqFields 9999 (refC r).toArray (refC s).toArray fs).run Tryz.prog w = .ok (refEqB r s) w := by
    intro fs h1 h2
    rcases fs with _ | ⟨f0, _ | ⟨f1, _ | ⟨f2, _ | ⟨f3, _ | ⟨f4, fs⟩⟩⟩⟩⟩
    case cons.cons.cons.cons.nil =>
      simp only [List.map_cons, List.map_nil, List.cons.injEq, Prod.mk.injEq, and_true] at h1
      simp only [List.all_cons, List.all_nil, Bool.and_true, Bool.and_eq_true, bne_iff_ne] at h2
      obtain ⟨⟨a0, b0⟩, ⟨a1, b1⟩, ⟨a2, b2⟩, a3, b3⟩ := h1
      obtain ⟨n0, n1, n2, n3⟩ := h2
      exact eqFields_step n0 (by rw [a0, b0]; exact hpi r) (by rw [a0, b0]; exact hpi s) (by rw [a0]; exact hid)
        (eqFields_step n1 (by rw [a1, b1]; exact hpn r 32 _ (i1 r).1) (by rw [a1, b1]; exact hpn s 32 _ (i1 s).1) (by rw [a1]; exact hint _ _)
        (eqFields_step n2 (by rw [a2, b2]; exact hpn r 33 _ (i1 r).2.1) (by rw [a2, b2]; exact hpn s 33 _ (i1 s).2.1) (by rw [a2]; exact hint _ _)
        (eqFields_step n3 (by rw [a3, b3]; exact hpn r 34 _ (i1 r).2.2) (by rw [a3, b3]; exact hpn s 34 _ (i1 s).2.2) (by rw [a3]; exact hint _ _) (by simp [Op.eqFields]))))
    all_goals simp at h1
  exact eqS_struct (by kernel_rfl) (by kernel_rfl) (by kernel_rfl) x y (key _ ref_fields ref_names)

theorem rsame13_spec (a : Option Addr) (n c : Nat) (l : Refs) (a2 : Option Addr) (n2 c2 : Nat) (m : Refs) (w : World) (hr : RdR w a n c l) (hr2 : RdR w a2 n2 c2 m) (hb : n ≤ 4611686018427387904) :
    Calls Tryz.prog 13 #[.slice a n c, .slice a2 n2 c2] w fun e w' => (e = .returned (.bool true) ∧ l = m ∨ e = .returned (.bool false) ∧ l ≠ m) ∧ Chg [] w w' := by
  have e1 := hr.num (by decide)
  have e2 := hr2.num (by decide)
  apply amphoraref13_Same_vc
  refine ⟨fun h => ?_, fun h => ?_⟩
  · have hne : l ≠ m := fun e => by subst e; simp at h; omega
    exact ⟨.inr ⟨rfl, hne⟩, Chg.refl _ _⟩
  have hnn : n = n2 := by simp at h; omega
  refine ⟨fun x w' => ∃ i : Nat, x = (i : Int) ∧ i ≤ n ∧ Chg [] w w' ∧ l.take i = m.take i, fun x _ => n - x.toNat, ⟨0, rfl, by omega, Chg.refl _ _, rfl⟩, ?_⟩
  rintro x w1 ⟨i, rfl, hi, hc, ht⟩
  refine ⟨fun h => ?_, fun h => ?_⟩
  · have hi' : i < n := by simp at h; omega
    have hd := hc.trans (Chg.drew [] w1)
    have ha : l[i]? = some l[i] := List.getElem?_eq_getElem (by omega)
    have hb2 : m[i]? = some m[i] := List.getElem?_eq_getElem (by omega)
    obtain ⟨b, o, hab, q⟩ := hr.ld (P := Tryz.prog) (by decide) rfA rfS ha
    obtain ⟨b2, o2, hab2, q2⟩ := hr2.ld (P := Tryz.prog) (by decide) rfA rfS hb2
    refine ⟨fun w' => Chg [] w w', hd, b, o, hab, by omega, by omega, b2, o2, hab2, by omega, by omega, _, fun w' h => q w' (hr.keep0 h), _, fun w' h => q2 w' (hr2.keep0 h), _, fun w' _ => (eqRefs _ _ l[i] m[i] w').2, fun h => ?_, fun h => ?_⟩
    · have hne : l ≠ m := fun e => by
        subst e
        rw [(refEqB_iff _ _).2 rfl] at h
        cases h
      exact ⟨.inr ⟨rfl, hne⟩, hd⟩
    · have he : l[i] = m[i] := (refEqB_iff _ _).1 (by simpa using h)
      refine ⟨⟨i + 1, wrap_succ hi' hb, by omega, hd, ?_⟩, mu_succ hi' hb⟩
      rw [List.take_add_one, List.take_add_one, ht, ha, hb2, he]
  · have hi' : i = n := by simp at h; omega
    rw [hi', List.take_of_length_le (by omega), List.take_of_length_le (by omega)] at ht
    exact ⟨.inl ⟨rfl, ht⟩, hc⟩

theorem flat_snoc (l : Refs) (r : RefD) : (l ++ [r]).flatMap refC = l.flatMap refC ++ refC r := by simp

theorem rfZ (w : World) : (zeroValue 75).run Tryz.prog w = .ok (.agg (refC ref0).toArray) w := Tryz.zeroValue75 w

theorem built_ref : Tryz.prog.built 75 = fun parts => Instr.fill (fun i => (#[(0, 32), (32, 1), (33, 1), (34, 1)] : Array (Nat × Nat))[i]?) (refC ref0).toArray parts := by kernel_rfl

theorem Sx.St.idRow {w0 w : World} {X : List Nat} {M : List Res} (h : St w0 X w M) {i g : Nat} {T : TypeId} {r : RefD} (hi : M[i]? = some (.arr g T (refC r))) : RdB w (some ⟨g, 0, none⟩) 32 32 r.id := by
  have rng := h.cellsA hi
  refine ⟨.inr ⟨g, 0, rfl, fun j v hj => rng j v ?_⟩, by simp [r.idl], Nat.le_refl _, by simp⟩
  rw [refC, List.getElem?_append_left (List.getElem?_eq_some_iff.1 hj).1]; exact hj

theorem Sx.RdE.fld {P : Program} {α : Type} {enc : α → List Value} {k : Nat} {w : World} {a : Option Addr} {n c : Nat} {l : List α} (h : RdE enc k w a n c l) (hk : 0 < k) {T : TypeId} (hA : ∀ w, (isAgg T).run P w = .ok false w) {i j : Nat} {x : α} {v : Value} (hx : l[i]? = some x) (hv : (enc x)[j]? = some v) :
    ∃ b o, a = some ⟨b, o, none⟩ ∧ ∀ w', RdE enc k w' a n c l → (Instr.loadAt T (.pointer (some ⟨b, o + Int.toNat (i : Int) * k + j, none⟩))).run P w' = .ok v w' := by
  obtain ⟨b, o, rfl, hr⟩ := h.at_ hk hx
  refine ⟨b, o, rfl, fun w' h' => ?_⟩
  rw [Int.toNat_natCast]
  exact ld1 (hA _) (hr w' h' j v hv)

end Go.Proofs.YtmdandkoajocpaaGreatDoor
