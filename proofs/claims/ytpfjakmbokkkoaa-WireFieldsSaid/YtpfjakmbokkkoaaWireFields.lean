/- The law WireFields answers true (conditions: none). -/
import Derived.Test.YtpfjakmbokkkoaaWireNumbers
import Derived.Test.YtpfjakmbokkkoaaRef04B
import Derived.Test.YtpfjakmbokkkoaaSame
import Derived.Test.YtpfjakmbokkkoaaSum
namespace Go.Proofs.Ytpfjakmbokkkoaa
open Go Sx

theorem wireFields_walk (a : Option Addr) (n c : Nat) (vs : List Value) (ls : List (List UInt8)) (a1 : Option Addr) (n1 c1 : Nat) (l1 : List UInt8) (x : Int) (w : World) (hr : Rd w a n c 1 vs) (h2 : Row2 w vs ls) (hr1 : RdB w a1 n1 c1 l1) (hx : -9223372036854775808 ≤ x ∧ x ≤ 9223372036854775807) :
    Calls Try.prog 4 #[.slice a n c, .slice a1 n1 c1, .int .i64 x] w fun e w' => e = .returned (.bool true) ∧ Chg [] w w' := by
  have hln : ls.length = n := by have := hr.len; have := h2.len; omega
  have hl1 := hr1.lenB
  apply amphoralaw04_WireFields_vc
  refine (alive_spec w).mono ?_
  rintro e w1 ⟨rfl, hc1⟩
  refine ⟨_, rfl, fun h => by simp at h, fun _ => ?_⟩
  refine ⟨fun b w' => w' = w1 ∧ (b = false → n ≤ 1000 ∧ ls.flatten.length ≤ 262144 ∧ n1 ≤ 262144), ⟨fun _ => ⟨rfl, by simp⟩, fun hn => (sum_spec a n c vs ls 1048576 w1 (hr.keep0 hc1) (h2.keep0 hc1) (by decide) (by simp at hn; omega)).mono ?_⟩, ?_⟩
  · rintro e w2 ⟨rfl, rfl⟩
    refine ⟨_, rfl, rfl, fun h => ?_⟩
    simp only [gt_iff_lt, decide_eq_false_iff_not, Bool.or_eq_false_iff] at h hn
    split at h <;> omega
  rintro b w3 ⟨rfl, hG⟩
  refine ⟨fun _ => ⟨rfl, hc1⟩, fun hb => ?_⟩
  obtain ⟨hn, hfl, hn1⟩ := hG hb
  clear hG
  obtain ⟨g4, w4, r4, h4⟩ := ((St.start w).same hc1).lit bbT [] (by simp) (by simp)
  refine ⟨_, _, _, _, r4, fun xa xn xc y w' => ∃ (i : Nat) (us : List Value), y = (i : Int) ∧ i ≤ n ∧ xn = i ∧ OwnL w w' xa xn xc us (ls.take i), fun _ _ _ y _ => n - y.toNat, ⟨0, [], rfl, by omega, rfl, h4, rfl, by simp⟩, ?_⟩
  rintro xa xn xc y w5 ⟨i, us, rfl, hi, rfl, hO⟩
  refine ⟨fun h => ?_, fun h => ?_⟩
  · have hi' : xn < n := by simp at h; omega
    obtain ⟨b, o, a', n', c', ha, hv, hrd, hld⟩ := ixS hr.cells h2 (i := xn) (by omega)
    have hlb := getD_le_flat (ls := ls) (i := xn) (by omega)
    have hl' := hrd.lenB
    refine ⟨b, o, ha, by omega, by omega, _, _, _, hld w5 (hr.cells.keep0 hO.st.chg), (copy_spec a' n' c' _ w5 (hrd.keep0 hO.st.chg) (by omega)).mono ?_⟩
    rintro e w6 ⟨g, c6, cur, rfl, hc6, hg6, hm⟩
    have hf : FreshB w5 w6 (some ⟨g, 0, none⟩) n' c6 (ls.getD xn []) := ⟨hc6, hm.len, hm.row hg6⟩
    obtain ⟨g7, w7, va, vc, w8, r7, r8, hO8⟩ := hO.push hf (by omega)
    refine ⟨_, _, _, rfl, _, _, _, _, r7, _, _, _, _, r8, ⟨xn + 1, us ++ [Value.slice (some ⟨g, 0, none⟩) n' c6], ?_, by omega, rfl, ?_⟩, ?_⟩
    · rw [wrap_i64 (by omega) (by omega)]; rfl
    · have : ls.take (xn + 1) = ls.take xn ++ [ls.getD xn []] := by
        rw [List.take_add_one, List.getElem?_eq_getElem (by omega)]; simp [List.getD, show xn < ls.length by omega]
      rw [this]; exact hO8
    · show n - (IntKind.wrap .i64 ((xn : Int) + 1)).toNat < n - ((xn : Int)).toNat
      rw [wrap_i64 (by omega) (by omega)]; omega
  · have hi' : xn = n := by simp at h; omega
    subst hi'
    rw [← hln, List.take_length] at hO
    rw [hln] at hO
    have hc5 := hO.st.chg
    refine (pack_spec xa xn xc us ls w5 hO.rd hO.row2 (by omega) (by omega)).mono ?_
    rintro e w9 ⟨a9, n9, c9, rfl, hf9⟩
    have hcd := hf9.1.trans (Chg.drew _ w9)
    have hc9 := hc5.trans hcd
    refine ⟨_, _, _, rfl, fun b w' => b = false ∧ Chg [] w w', ⟨fun w' => Chg [] w9 w', Chg.drew _ _, _, fun w' h => toStr bS bE sS (hf9.cells.keep0 h) hf9.2.1, (rpack_spec a xn c vs ls _ (hr.keep0 hc9) (h2.keep0 hc9) (by omega) (by omega)).mono ?_⟩, ?_⟩
    · rintro e w10 ⟨a10, n10, c10, rfl, hf10⟩
      have hc10 := hc9.trans hf10.1
      refine ⟨_, _, _, rfl, fun w' => Chg [] w10 w', fun w' h => ((Chg.drew _ w9).trans hf10.1).trans h, Chg.refl _ _, _, fun w' h => toStr bS bE sS (hf10.cells.keep0 h) hf10.2.1, fun h => by simp at h, fun _ => ?_⟩
      have hO10 := hO.same (hcd.trans hf10.1)
      refine (same_spec _ _ _ us ls a xn c vs ls w10 hO10.rd hO10.row2 (hr.keep0 hc10) (h2.keep0 hc10) (by omega)).mono ?_
      rintro e w11 ⟨rfl, hc11⟩
      exact ⟨_, rfl, fun w' => Chg [] w11 w', fun w' h => hc11.trans h, Chg.refl _ _, by simp, hc10.trans hc11⟩
    rintro b w12 ⟨rfl, hc12⟩
    refine ⟨fun h => (by cases h), fun _ => (copy_spec a1 n1 c1 l1 w12 (hr1.keep0 hc12) (by omega)).mono ?_⟩
    rintro e w13 ⟨g13, c13, cur, rfl, hc13, hg13, hm⟩
    have hc1' := hc12.trans hc13
    refine ⟨_, _, _, rfl, thenC (unpack_spec _ _ _ l1 x w13 hm.rd (by omega) hx) ?_⟩
    have hru := fun w14 (hc : Chg [] w w14) => runpack_spec a1 n1 c1 l1 x w14 (hr1.keep0 hc) (by omega) hx
    have hblk : ∀ w', Chg [] w13 w' → MarkB w' g13 n1 c13 l1 cur := fun w' h => hm.keep (h.block g13 (getElem?_eq_some_iff.1 hm.blk).1 (by simp))
    cases hz : unpackZ x l1 with
    | none =>
      rw [hz] at hru
      rintro e w14 ⟨rfl, hc14⟩
      refine ⟨_, _, _, _, rfl, (hru w14 (hc1'.trans hc14)).mono ?_⟩
      rintro e w15 ⟨rfl, hc15⟩
      have hO15 := OwnL.nil w15
      refine ⟨_, _, _, _, rfl, (same_spec none 0 0 [] [] none 0 0 [] [] w15 hO15.rd hO15.row2 hO15.rd hO15.row2 (by omega)).mono ?_⟩
      rintro e w16 ⟨rfl, hc16⟩
      refine ⟨_, rfl, fun _ => (num_spec (some 9) w16 (by decide)).mono ?_, fun h => by simp at h⟩
      rintro e w17 ⟨rfl, rfl⟩
      have hc17 := (hc14.trans hc15).trans hc16
      refine ⟨_, rfl, fun _ => (kept_spec _ _ _ _ _ _ _ _ _ (hblk _ hc17) (hr1.keep0 (hc1'.trans hc17)) (by omega)).mono ?_, fun h => by simp at h⟩
      rintro e w18 ⟨rfl, rfl⟩
      refine ⟨_, rfl, fun _ => (apartL (OwnL.nil w18) (by omega) (by simp)).mono ?_, fun h => by simp at h⟩
      rintro e w19 ⟨rfl, hc19⟩
      exact ⟨_, rfl, rfl, (hc1'.trans hc17).trans hc19⟩
    | some fs =>
      rw [hz] at hru
      rintro e w14 ⟨a14, n14, c14, vs14, rfl, hO14⟩
      have hc14 := hO14.st.chg
      refine ⟨_, _, _, _, rfl, (hru w14 (hc1'.trans hc14)).mono ?_⟩
      rintro e w15 ⟨a15, n15, c15, vs15, rfl, hO15⟩
      have hc15 := hO15.st.chg
      have hO' := hO14.same hc15
      have hlen : fs.length + fs.flatten.length ≤ l1.length := by
        unfold unpackZ at hz
        split at hz
        · cases hz
        · exact (unpackF_len _ _ _ hz).2
      have hnum := hO14.num
      refine ⟨_, _, _, _, rfl, (same_spec _ _ _ _ fs _ _ _ _ fs w15 hO'.rd hO'.row2 hO15.rd hO15.row2 (by omega)).mono ?_⟩
      rintro e w16 ⟨rfl, hc16⟩
      refine ⟨_, rfl, fun _ => (num_spec none w16 (by decide)).mono ?_, fun h => by simp at h⟩
      rintro e w17 ⟨rfl, rfl⟩
      have hc17 := (hc14.trans hc15).trans hc16
      refine ⟨_, rfl, fun _ => (kept_spec _ _ _ _ _ _ _ _ _ (hblk _ hc17) (hr1.keep0 (hc1'.trans hc17)) (by omega)).mono ?_, fun h => by simp at h⟩
      rintro e w18 ⟨rfl, rfl⟩
      refine ⟨_, rfl, fun _ => (apartL (hO'.same hc16) (by omega) (by omega)).mono ?_, fun h => by simp at h⟩
      rintro e w19 ⟨rfl, hc19⟩
      exact ⟨_, rfl, rfl, hc1'.trans hc19⟩

end Go.Proofs.Ytpfjakmbokkkoaa
