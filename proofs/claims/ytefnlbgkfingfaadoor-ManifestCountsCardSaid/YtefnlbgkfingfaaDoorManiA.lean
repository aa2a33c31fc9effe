/- Contracts of manifest.node and of the reference's Node (conditions: those that each theorem names). -/
import Derived.Test.YtefnlbgkfingfaaDoorManiF
import Derived.Test.YtefnlbgkfingfaaDoorWireB
import Derived.Test.YtefnlbgkfingfaaDoorVmani
namespace Go.Proofs.YtefnlbgkfingfaaDoor
open Go Sx
set_option maxRecDepth 8000

theorem RdI.elem {w : World} {a : Option Addr} {n c : Nat} {ids : Ids} (h : RdI w a n c ids) {i : Nat} (hi : i < n) : ∃ b o, a = some ⟨b, o, none⟩ ∧ ∀ w', RdI w' a n c ids → RdB w' (some ⟨b, o + Int.toNat (i : Int) * 32, none⟩) 32 32 (ids.getD i []) := by
  obtain ⟨b, o, rfl, _⟩ := h.at_ hi
  refine ⟨b, o, rfl, fun w' h' => ?_⟩
  obtain ⟨b', o', e, hr⟩ := h'.at_ hi
  simp only [Option.some.injEq, Addr.mk.injEq, and_true] at e
  obtain ⟨rfl, rfl⟩ := e
  have hn := h.num
  have hl : (ids.getD i []).length = 32 := h.all _ (by rw [List.getD, List.getElem?_eq_getElem (by omega)]; simp)
  rw [Int.toNat_natCast]
  exact ⟨.inr ⟨_, _, rfl, hr⟩, by rw [bv_length, hl], Nat.le_refl _, by simp⟩

theorem RdI.get32 {w : World} {a : Option Addr} {n c : Nat} {ids : Ids} (h : RdI w a n c ids) {i : Nat} (hi : i < n) : (ids.getD i []).length = 32 := by
  have hn := h.num
  exact h.all _ (by rw [List.getD, List.getElem?_eq_getElem (by omega)]; simp)

theorem lv_byte (lv : Nat) : IntKind.wrap .u8 (lv : Int) = ((UInt8.ofNat lv).toNat : Int) := by
  rw [wrap_u8]
  simp

theorem node_spec (lv : Nat) (a : Option Addr) (n c : Nat) (ids : Ids) (w : World) (hr : RdI w a n c ids) (hb : n ≤ 1000000) :
    Calls Tryd.prog 30 #[.int .i64 (lv : Int), .slice a n c] w fun e w' => ∃ a' n' c', e = .returned (.slice a' n' c') ∧ FreshB w w' a' n' c' (nodeL lv ids) := by
  have hn := hr.num
  apply manifest_node_vc
  rw [lv_byte]
  obtain ⟨g1, w1, r1, h1⟩ := (St.start w).lit bT [.int .u8 ((UInt8.ofNat lv).toNat : Int)] (by simp [Value.oneCell']) (by simp)
  have h1 : St w [] w1 [.row 5 1 (.slice (some ⟨g1, 0, none⟩) 1 1) 1 (bv [UInt8.ofNat lv])] := h1
  have hv9 := varL_len 9 n (by omega) (by decide)
  refine ⟨_, _, _, _, r1, (var_spec n w1 (by omega)).mono ?_⟩
  rintro e w2 ⟨a2, n2, c2, rfl, hf2⟩
  have h2 := hf2.add h1
  have e2 := hf2.2.1
  obtain ⟨va, vc, w3, r3, h3⟩ := h2.appendB (i := 0) rfl (h2.rd (i := 1) (xs := bv (varL n)) rfl) (by omega)
  have h3' : St w [] w3 [.row 5 1 (.slice va (1 + n2) vc) (1 + n2) (bv ([UInt8.ofNat lv] ++ varL n))] := h3.sub (List.Sublist.cons_cons _ (List.nil_sublist _))
  refine ⟨_, _, _, rfl, _, _, _, _, r3, fun xa xn xc x w' => ∃ i : Nat, x = (i : Int) ∧ i ≤ n ∧ St w [] w' [.row 5 1 (.slice xa xn xc) xn (bv ([UInt8.ofNat lv] ++ varL n ++ (ids.take i).flatten))], fun _ _ _ x _ => n - x.toNat, ⟨0, rfl, by omega, by simpa using h3'⟩, ?_⟩
  rintro xa xn xc x w4 ⟨i, rfl, hi, h4⟩
  have hl4 : xn ≤ 10 + 32 * n := by
    have h5 : RdB w4 xa xn xc _ := h4.rd (i := 0) rfl
    have := h5.lenB
    have h6 := flat32 (hr.all.take i)
    rw [List.length_append, List.length_append, h6, List.length_take] at this
    simp only [List.length_singleton] at this
    omega
  refine ⟨fun h => ?_, fun h => ?_⟩
  · have hi' : i < n := by simp at h; omega
    obtain ⟨b, o, ha, q⟩ := hr.ld hi'
    have h32 := hr.get32 hi'
    obtain ⟨g5, w5, r5, h5⟩ := h4.zeroA idZ
    obtain ⟨w6, r6, h6⟩ := h5.stA (i := 1) (v := bv (ids.getD i [])) rfl (idS _) (by simp) (by rw [bv_length]; exact h32) (bv_one _)
    obtain ⟨vb, vd, w7, r7, h7⟩ := h6.appendB (i := 0) (m := 32) rfl (h6.rdA (i := 1) (l := bv (ids.getD i [])) rfl (by rw [bv_length]; exact h32)) (by omega)
    have h7' : St w [] w7 [.row 5 1 (.slice vb (xn + 32) vd) (xn + 32) (bv ([UInt8.ofNat lv] ++ varL n ++ (ids.take (i + 1)).flatten))] := by
      rw [flat_take (by omega), ← List.append_assoc]
      exact h7.sub (List.Sublist.cons_cons _ (List.nil_sublist _))
    exact ⟨b, o, ha, by omega, by omega, _, q w4 (hr.keep0 h4.chg), g5, w5, r5, w6, r6, by omega, by omega, _, _, _, _, r7, ⟨i + 1, wrap_succ hi' (by omega), by omega, h7'⟩, mu_succ hi' (by omega)⟩
  · have hi' : i = n := by simp at h; omega
    rw [hi', List.take_of_length_le (by omega)] at h4
    refine ⟨_, _, _, rfl, ?_⟩
    rw [nodeL, hn]
    exact h4.freshB (i := 0) rfl

theorem rnode_spec (lv : Nat) (a : Option Addr) (n c : Nat) (ids : Ids) (w : World) (hr : RdI w a n c ids) (hb : n ≤ 1000000) :
    Calls Tryd.prog 32 #[.int .i64 (lv : Int), .slice a n c] w fun e w' => ∃ a' n' c', e = .returned (.slice a' n' c') ∧ FreshB w w' a' n' c' (nodeL lv ids) := by
  have hn := hr.num
  apply amphoraref15_Node_vc
  rw [lv_byte]
  obtain ⟨g1, w1, r1, h1⟩ := (St.start w).lit bT [.int .u8 ((UInt8.ofNat lv).toNat : Int)] (by simp [Value.oneCell']) (by simp)
  have h1 : St w [] w1 [.row 5 1 (.slice (some ⟨g1, 0, none⟩) 1 1) 1 (bv [UInt8.ofNat lv])] := h1
  have hv9 := varL_len 9 n (by omega) (by decide)
  refine ⟨_, _, _, _, r1, (rvar_spec n w1 (by omega)).mono ?_⟩
  rintro e w2 ⟨a2, n2, c2, rfl, hf2⟩
  have h2 := hf2.add h1
  have e2 := hf2.2.1
  obtain ⟨va, vc, w3, r3, h3⟩ := h2.appendB (i := 0) rfl (h2.rd (i := 1) (xs := bv (varL n)) rfl) (by omega)
  have h3' : St w [] w3 [.row 5 1 (.slice va (1 + n2) vc) (1 + n2) (bv ([UInt8.ofNat lv] ++ varL n))] := h3.sub (List.Sublist.cons_cons _ (List.nil_sublist _))
  refine ⟨_, _, _, rfl, _, _, _, _, r3, fun xa xn xc x w' => ∃ i : Nat, x = (i : Int) ∧ i ≤ n ∧ St w [] w' [.row 5 1 (.slice xa xn xc) xn (bv ([UInt8.ofNat lv] ++ varL n ++ (ids.take i).flatten))], fun _ _ _ x _ => n - x.toNat, ⟨0, rfl, by omega, by simpa using h3'⟩, ?_⟩
  rintro xa xn xc x w4 ⟨i, rfl, hi, h4⟩
  have hl4 : xn ≤ 10 + 32 * n := by
    have h5 : RdB w4 xa xn xc _ := h4.rd (i := 0) rfl
    have := h5.lenB
    have h6 := flat32 (hr.all.take i)
    rw [List.length_append, List.length_append, h6, List.length_take] at this
    simp only [List.length_singleton] at this
    omega
  refine ⟨fun h => ?_, fun h => ?_⟩
  · have hi' : i < n := by simp at h; omega
    obtain ⟨b, o, ha, q⟩ := hr.elem hi'
    obtain ⟨vb, vd, w7, r7, h7⟩ := h4.appendB (i := 0) (m := 32) rfl (q w4 (hr.keep0 h4.chg)) (by omega)
    have h7' : St w [] w7 [.row 5 1 (.slice vb (xn + 32) vd) (xn + 32) (bv ([UInt8.ofNat lv] ++ varL n ++ (ids.take (i + 1)).flatten))] := by
      rw [flat_take (by omega), ← List.append_assoc]
      exact h7
    exact ⟨b, o, ha, by omega, by omega, by omega, by omega, _, _, _, _, r7, ⟨i + 1, wrap_succ hi' (by omega), by omega, h7'⟩, mu_succ hi' (by omega)⟩
  · have hi' : i = n := by simp at h; omega
    rw [hi', List.take_of_length_le (by omega)] at h4
    refine ⟨_, _, _, rfl, ?_⟩
    rw [nodeL, hn]
    exact h4.freshB (i := 0) rfl

end Go.Proofs.YtefnlbgkfingfaaDoor
