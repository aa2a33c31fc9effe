/- Contracts of the reference of chapter 5: Tag, Open; the law SealTakes answers true (conditions: the table lies where the program laid it). -/
import Derived.Test.YtmdandkoajocpaaGreatDoorSealC
import Derived.Test.YtmdandkoajocpaaGreatDoorWireB
import Derived.Test.YtmdandkoajocpaaGreatDoorShaT
namespace Go.Proofs.YtmdandkoajocpaaGreatDoor
open Go Sx
set_option maxRecDepth 8000

theorem d12B (w : World) : (Instr.build 187 #[]).run Tryz.prog w = .ok (.agg (bv (List.replicate 12 0)).toArray) w := by
  have := build_arr (P := Tryz.prog) (w := w) (T := 187) (d12Z w) Tryz.underlying187 (sB1 w) [] (by simp) (by simp)
  simpa using this

theorem rtag_spec (K : List UInt8) (k : UInt8) (a2 : Option Addr) (n2 c2 : Nat) (ctx : List UInt8) (a3 : Option Addr) (n3 c3 : Nat) (nonce : List UInt8) (a4 : Option Addr) (n4 c4 : Nat) (body : List UInt8) (w : World) (hk : K.length = 96) (hr2 : RdB w a2 n2 c2 ctx) (hr3 : RdB w a3 n3 c3 nonce) (hr4 : RdB w a4 n4 c4 body) (hb : n2 + n3 + n4 ≤ 67108000) :
    Calls Tryz.prog 107 #[.agg (bv K).toArray, .int .u8 (k.toNat : Int), .slice a2 n2 c2, .slice a3 n3 c3, .slice a4 n4 c4] w fun e w' => e = .returned (.agg (bv (tagF K k ctx nonce body)).toArray) ∧ Chg [] w w' := by
  have e2 := hr2.lenB
  have e3 := hr3.lenB
  have e4 := hr4.lenB
  apply amphoraref05_Tag_vc
  obtain ⟨g1, w1, r1, h1⟩ := (St.start w).boxA 28 (bv K)
  obtain ⟨g2, w2, r2, h2⟩ := h1.zeroA d32Z
  have h2d := h2.drew
  obtain ⟨g3, w3, r3, c3', q3⟩ := litK k w2.drew
  have h3 := h2d.same c3'
  obtain ⟨g4, w4, r4, c4', q4, _⟩ := litC bbT [.slice (some ⟨g3, 0, none⟩) 1 1, .slice a2 n2 c2, .slice a3 n3 c3, .slice a4 n4 c4] (by simp [Value.oneCell']) (by simp) w3
  have h4 := h3.same c4'
  have hrow : Row2 w4 [.slice (some ⟨g3, 0, none⟩) 1 1, .slice a2 n2 c2, .slice a3 n3 c3, .slice a4 n4 c4] [[k], ctx, nonce, body] :=
    (row2_three (h4.rd1 hr2) (h4.rd1 hr3) (h4.rd1 hr4)).cons (q3.keep0 c4')
  refine ⟨g1, w1, r1, g2, w2, r2, by omega, by omega, _, _, _, _, r3, _, _, _, _, r4, (rpack_spec _ 4 4 _ [[k], ctx, nonce, body] w4 q4 hrow (by simp; omega) (by simp)).mono ?_⟩
  rintro e w5 ⟨a5, n5, c5, rfl, hf5⟩
  have h5 := h4.same hf5.1
  obtain ⟨g6, w6, r6, c6', q6, _⟩ := litC bbT [.slice a5 n5 c5] (by simp [Value.oneCell']) (by simp) w5
  have h6 := h5.same c6'
  have hpl : (packL [[k], ctx, nonce, body]).length ≤ 67109864 := by
    have := packL_len [[k], ctx, nonce, body] (by simp; omega)
    simp at this ⊢
    omega
  refine ⟨_, _, _, rfl, _, _, _, _, r6, (rmac_spec _ 32 32 (macKy K) _ 1 1 _ [packL [[k], ctx, nonce, body]] w6 (macK_rd h6 (i := 0) rfl hk).1 (by omega) q6 (row2_one (hf5.rdB.keep0 c6')) (by rw [List.flatten_cons, List.flatten_nil, List.append_nil]; omega) (by decide)).mono ?_⟩
  rintro e w7 ⟨rfl, c7⟩
  have e1 : [packL [[k], ctx, nonce, body]].flatten = packL [[k], ctx, nonce, body] := by rw [List.flatten_cons, List.flatten_nil, List.append_nil]
  rw [e1]
  obtain ⟨w8, r8, h8⟩ := (h6.same c7).stA (i := 1) (v := bv (tagF K k ctx nonce body)) rfl (d32S _) (by simp) (by simp) (bv_one _)
  exact ⟨_, rfl, w8, r8, _, h8.ldVarA (i := 1) (l := bv (tagF K k ctx nonce body)) rfl (d32A _) (d32S _) (by simp), rfl, h8.chg⟩

theorem FreshB.blk {w w' : World} {a : Option Addr} {n c : Nat} {l : List UInt8} (h : FreshB w w' a n c l) : ∀ ad, a = some ad → w.heap.size ≤ ad.block := by
  intro ad e
  subst e
  rcases h.2.2.2 with ⟨hv, _⟩ | ⟨g, cap, cur, hv, hb, _⟩
  · simp at hv
  · simp only [Value.slice.injEq, Option.some.injEq] at hv
    rw [hv.1]
    exact hb

theorem openE_ne (K : List UInt8) (k : UInt8) (ctx b : List UInt8) : openE K k ctx b ≠ some 0 := by rw [openE]; split <;> simp

/-- The cells of a Blob. -/
def blobL (K : List UInt8) (k : UInt8) (a1 : Option Addr) (n1 c1 : Nat) (a2 : Option Addr) (n2 c2 : Nat) : List Value := bv K ++ [.int .u8 (k.toNat : Int), .slice a1 n1 c1, .slice a2 n2 c2]

end Go.Proofs.YtmdandkoajocpaaGreatDoor
