/- Contracts of pack: the whole file in pieces; Build (conditions: those that each theorem names). -/
import Derived.Test.YtmdandkoajocpaaGreatDoorPackB
import Derived.Lib.AppendZerosOnto
namespace Go.Proofs.YtmdandkoajocpaaGreatDoor
open Go Sx
set_option maxRecDepth 8000

/-! ### sizes -/
theorem SmallI.take {xs : List Itm} (h : SmallI xs) (i : Nat) : SmallI (xs.take i) := by
  refine ⟨by have := h.num; simp; omega, fun x hx => h.idl x (List.mem_of_mem_take hx), ?_⟩
  have e : (xs.take i ++ xs.drop i).map (fun x => x.2.length) = xs.map (fun x => x.2.length) := by rw [List.take_append_drop]
  have h2 := congrArg List.sum e
  rw [List.map_append, List.sum_append] at h2
  have := h.sum
  omega
theorem frames_len : ∀ (xs : List Itm), (∀ x ∈ xs, x.1.length = 32 ∧ x.2.length ≤ 67108832) → (xs.map frmT).flatten.length ≤ 42 * xs.length + (xs.map fun x => x.2.length).sum
  | [], _ => by simp
  | x :: r, h => by
    obtain ⟨h1, h2⟩ := h x (by simp)
    have := (frmT_len x h1 h2).2
    have := frames_len r fun y hy => h y (by simp [hy])
    simp only [List.map_cons, List.flatten_cons, List.length_append, List.length_cons, List.sum_cons]
    omega
theorem SmallI.bytes {xs : List Itm} (h : SmallI xs) : (xs.map frmT).flatten.length ≤ 16950000 := by
  have h1 := frames_len xs fun x hx => ⟨h.idl x hx, by have := h.blob hx; omega⟩
  have h2 := h.num
  have h3 := h.sum
  omega
theorem sizeP_ps (num : Int) (xs : List Itm) : (headP num :: xs.map frmT).flatten.length = sizeP 16 xs := by
  rw [sizeP_eq]; simp

section
variable {w0 w w' : World} {X : List Nat} {M N N' T : List Res} {g : Nat} {num : Int} {ps : List (List UInt8)} {rs : List RefD}

theorem kyA' (w : World) : (isAgg 28).run Tryz.prog w = .ok true w := Tryz.isAgg28 w
theorem kyS' (w : World) : (sizeOf 28).run Tryz.prog w = .ok 96 w := Tryz.sizeOf28 w

theorem rdRefs (h : St w0 X w M) {i : Nat} {a : Option Addr} {c : Nat} {l : List RefD} (hi : M[i]? = some (.row 75 35 (.slice a l.length c) l.length (l.flatMap refC))) : RdR w a l.length c l := ⟨h.rd hi, fun x _ => refC_len x⟩

set_option maxHeartbeats 1000000 in
theorem pkfoot_spec (K : List UInt8) (hk : K.length = 96) (hK : KTab w) (h : FileIn w0 X w g num ps rs N) (hp : ps.length < 1000000) (hrs : rs.length ≤ 4096) (hs : ps.flatten.length ≤ 1099511627776) :
    Calls Tryz.prog 72 #[.pointer (some ⟨g, 0, none⟩), .agg (bv K).toArray] w fun e w' => e = .returned (.tuple #[]) ∧ FileIn w0 X w' g num (ps ++ [footP K num rs]) rs N := by
  apply pack_file_foot_vc
  obtain ⟨g3, w1, r1, k1⟩ := (St.start w).boxA (P := Tryz.prog) 28 (bv K)
  have h1 := (h.addSt k1).same (Chg.drew [] w1)
  obtain ⟨f, rfl, rfl, q1⟩ := h1
  have cD : Chg [] w w1.drew := k1.chg.trans (Chg.drew [] w1)
  let Q : World → Prop := fun w' => St w0 X w' (.arr g 105 (fileL num f) :: .row 33 1 (.slice f.la f.ps.length f.lc) f.ps.length (f.ps.map PcD.v) :: .row 75 35 (.slice f.ra f.rs.length f.rc) f.rs.length (f.rs.flatMap refC) :: (f.ps.map PcD.row ++ (N ++ ([] ++ [.arr g3 28 (bv K)]))))
  let S : World → Prop := fun w' => ∃ v1 v2 : Value, St w0 X w' [.arr g 105 [v1, v2, .int .i64 num, .slice f.ra f.rs.length f.rc], .arr g3 28 (bv K)]
  have q1 : Q w1.drew := q1
  have tl : ∀ {L : List Res}, (([.arr g3 28 (bv K)] : List Res)).Sublist (.row 33 1 (.slice f.la f.ps.length f.lc) f.ps.length (f.ps.map PcD.v) :: .row 75 35 (.slice f.ra f.rs.length f.rc) f.rs.length (f.rs.flatMap refC) :: (L ++ (N ++ ([] ++ [.arr g3 28 (bv K)])))) := (((List.sublist_append_right N _).trans (List.sublist_append_right _ _)).trans (List.sublist_cons_self _ _)).trans (List.sublist_cons_self _ _)
  have sk : ∀ w', Q w' → S w' := fun w' h => ⟨_, _, Sx.St.sub h (List.Sublist.cons_cons _ tl)⟩
  refine ⟨g3, w1, r1, S, sk _ q1, _, fun w' ⟨v1, v2, hw⟩ => hw.ldA (i := 1) (l := bv K) rfl (kyA' _) (kyS' _) (by simp [hk]), _, fun w' ⟨v1, v2, hw⟩ => hw.ldL (i := 0) (o := 2) rfl (inA _) rfl rfl, _, _, _, fun w' ⟨v1, v2, hw⟩ => hw.ldL (i := 0) (o := 3) rfl (rsA' _) rfl rfl, (num_bytes' num _).mono ?_⟩
  rintro e w2 ⟨a2, c2, rfl, hf2⟩
  have q2 : Q w2 := Sx.St.same q1 hf2.1
  refine ⟨_, _, _, rfl, S, fun _ h => h, sk _ q2, (footPlain_spec _ _ _ f.rs w2 (rdRefs q2 (i := 2) rfl) (by omega)).mono ?_⟩
  rintro e w3 ⟨a3, n3, c3, rfl, hf3⟩
  have q3 : Q w3 := Sx.St.same q2 hf3.1
  have hn3 : n3 = 48 * f.rs.length := by rw [← hf3.2.1, footL_len]
  refine ⟨_, _, _, rfl, S, fun _ h => h, sk _ q3, (seal_spec K 3 a2 8 c2 (numL (n64 num)) a3 n3 c3 (footL f.rs) w3 hk (((hK.keep0 cD).keep0 hf2.1).keep0 hf3.1) (hf2.rdB.keep0 hf3.1) hf3.rdB (by omega)).mono ?_⟩
  rintro e w4 ⟨a4, n4, c4, rfl, hf4⟩
  have q4 : Q w4 := Sx.St.same q3 hf4.1
  have hsl := sealF_len K 3 (numL (n64 num)) (footL f.rs) (by rw [footL_len]; omega)
  rw [footL_len] at hsl
  obtain ⟨g5, w5, r5, k5⟩ := (St.start w4).lit bbT [.slice a4 n4 c4] (by simp [Value.oneCell']) (by simp)
  have q5 : Q w5 := Sx.St.same q4 k5.chg
  refine ⟨_, _, _, rfl, S, fun _ h => h, sk _ q4, _, _, _, w5, r5, S, fun _ h => h, sk _ q5, (frame_spec 3 _ 1 1 _ [sealF K 3 (numL (n64 num)) (footL f.rs)] w5 (k5.rd (i := 0) rfl) (Row2.cons (hf4.rdB.keep0 k5.chg) (Row2.nil _)) (by simp; omega) (by simp)).mono ?_⟩
  rintro e w6 ⟨a6, n6, c6, rfl, hf6⟩
  have eF : frameL 3 [sealF K 3 (numL (n64 num)) (footL f.rs)].flatten = footP K num f.rs := by simp [footP]
  rw [eF] at hf6
  have hn6 : (footP K num f.rs).length = n6 := hf6.2.1
  subst hn6
  have hfl : (footP K num f.rs).length ≤ 67108864 := by
    have := varL_len 9 (sealF K 3 (numL (n64 num)) (footL f.rs)).length (by omega) (by decide)
    simp only [footP, frameL, List.length_cons, List.length_append]
    omega
  have q6 : Q w6 := Sx.St.same q5 hf6.1
  have h6 : St w0 X w6 (fileR g num f ++ (f.ps.map PcD.row ++ ((N ++ ([] ++ [.arr g3 28 (bv K)])) ++ [.row 5 1 (.slice a6 (footP K num f.rs).length c6) (footP K num f.rs).length (bv (footP K num f.rs))]))) := by
    have q5' : St w0 X w5 ((fileR g num f ++ (f.ps.map PcD.row ++ (N ++ ([] ++ [.arr g3 28 (bv K)])))) ++ []) := by rw [List.append_nil]; exact q5
    have := Sx.St.callPart (N := []) q5' (hf6.add (St.start w5))
    simpa only [List.append_assoc, List.nil_append] using this
  refine ⟨_, _, _, rfl, S, fun _ h => h, sk _ q6, (pkput_spec' h6 (by simpa using hp) (by omega)).mono ?_⟩
  rintro e w7 ⟨rfl, la, lc, h7⟩
  have h7' : St w0 X w7 (.arr g 105 (fileL num { f with la := la, lc := lc, ps := f.ps ++ [⟨a6, c6, footP K num f.rs⟩] }) :: .row 33 1 (.slice la (f.ps ++ [(⟨a6, c6, footP K num f.rs⟩ : PcD)]).length lc) (f.ps ++ [(⟨a6, c6, footP K num f.rs⟩ : PcD)]).length ((f.ps ++ [(⟨a6, c6, footP K num f.rs⟩ : PcD)]).map PcD.v) :: .row 75 35 (.slice f.ra f.rs.length f.rc) f.rs.length (f.rs.flatMap refC) :: ((f.ps ++ [(⟨a6, c6, footP K num f.rs⟩ : PcD)]).map PcD.row ++ (N ++ ([] ++ [.arr g3 28 (bv K)])))) := h7
  refine ⟨rfl, S, fun _ h => h, ⟨_, _, h7'.sub (List.Sublist.cons_cons _ ?_)⟩, rfl, { f with la := la, lc := lc, ps := f.ps ++ [⟨a6, c6, footP K num f.rs⟩] }, by simp, rfl, h7.sub (List.Sublist.append_left (List.Sublist.append_left (List.sublist_append_left _ _) _) _)⟩
  exact (((List.sublist_append_right N _).trans (List.sublist_append_right _ _)).trans (List.sublist_cons_self _ _)).trans (List.sublist_cons_self _ _)

end

end Go.Proofs.YtmdandkoajocpaaGreatDoor
