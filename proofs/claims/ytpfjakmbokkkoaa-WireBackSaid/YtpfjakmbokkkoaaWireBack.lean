/- The law WireBack answers true (conditions: none). -/
import Derived.Test.YtpfjakmbokkkoaaWireCuts
import Derived.Test.YtpfjakmbokkkoaaSame
namespace Go.Proofs.Ytpfjakmbokkkoaa
open Go Sx

/-- What is read back of a written number. -/
theorem var_back (x : Int) (w : World) (hx : -9223372036854775808 ≤ x ∧ x ≤ 9223372036854775807) (K : Ending → World → Prop)
    (hK : ∀ a n c w' (l : List UInt8), FreshB w w' a n c l → n ≤ 9 → (x < 0 → readVarF l = none) → (0 ≤ x → readVarF l = some (x.toNat, n)) → K (.returned (.slice a n c)) w') :
    Calls Try.prog 18 #[.int .i64 x] w K := by
  rcases Int.lt_or_le x 0 with h | h
  · refine (var_neg x w h).mono ?_
    rintro e w' ⟨rfl, rfl⟩
    exact hK _ _ _ _ [] (FreshB.nil _) (by omega) (fun _ => rfl) (fun h' => by omega)
  · obtain ⟨m, rfl⟩ := Int.eq_ofNat_of_zero_le h
    refine (var_spec m w (by omega)).mono ?_
    rintro e w' ⟨a, n, c, rfl, hf⟩
    have hn := hf.2.1
    have h9 := varL_len 9 m (by omega) (by decide)
    refine hK _ _ _ _ _ hf (by omega) (fun h' => by omega) (fun _ => ?_)
    have := readVar_varL (m := m) (by omega) []
    rw [List.append_nil] at this
    rw [this, hn]; rfl

theorem wireBack_walk (x : Int) (a : Option Addr) (n c : Nat) (vs : List Value) (ls : List (List UInt8)) (a1 : Option Addr) (n1 c1 : Nat) (l1 : List UInt8) (w : World) (hx : -9223372036854775808 ≤ x ∧ x ≤ 9223372036854775807) (hr : Rd w a n c 1 vs) (h2 : Row2 w vs ls) (hr1 : RdB w a1 n1 c1 l1) :
    Calls Try.prog 9 #[.int .i64 x, .slice a n c, .slice a1 n1 c1] w fun e w' => e = .returned (.bool true) ∧ Chg [] w w' := by
  have hln : ls.length = n := by have := hr.len; have := h2.len; omega
  have hl1 := hr1.lenB
  have hle1 := hr1.le
  obtain ⟨mI, hI⟩ := eI
  have iI : ∀ w, (isAgg 3).run Try.prog w = .ok false w := fun w => Try.isAgg3 w
  apply amphoralaw04_WireBack_vc
  refine (alive_spec w).mono ?_
  rintro e w1 ⟨rfl, hc1⟩
  refine ⟨_, rfl, fun h => by simp at h, fun _ => ?_⟩
  refine ⟨fun b w' => w' = w1 ∧ (b = false → n ≤ 1000 ∧ ls.flatten.length ≤ 262144 ∧ n1 ≤ 262144), ⟨fun _ => ⟨rfl, by simp⟩, fun hn => (sum_spec a n c vs ls 1048576 w1 (hr.keep0 hc1) (h2.keep0 hc1) (by decide) (by simp at hn; omega)).mono ?_⟩, ?_⟩
  · rintro e w2 ⟨rfl, rfl⟩
    refine ⟨_, rfl, rfl, fun h => ?_⟩
    simp only [gt_iff_lt, decide_eq_false_iff_not, Bool.or_eq_false_iff] at h hn
    split at h <;> omega
  rintro b w3 ⟨rfl, hG⟩
  refine ⟨fun _ => ⟨rfl, hc1⟩, fun hb => ?_⟩
  obtain ⟨hn, hfl, hn1⟩ := hG hb
  clear hG
  have hsm : ∀ l ∈ ls, l.length ≤ 67108864 := fun l hl => by have := mem_le_flat hl; omega
  have hpl := packL_len ls fun l hl => by have := hsm l hl; omega
  -- the numbers
  refine var_back x w3 hx _ fun a4 n4 c4 w4 l4 hf4 hn4 hneg hpos => ?_
  refine ⟨_, _, _, rfl, (readVar_spec _ _ _ _ w4 hf4.rdB).mono ?_⟩
  rintro e w5 ⟨rfl, rfl⟩
  obtain ⟨y, s, o, hrv, hyn, hyp⟩ : ∃ (y s : Int) (o : Option Int), rvOut (readVarF l4) = .tuple #[.int .i64 y, .int .i64 s, errV o] ∧ (x < 0 → o = some 9) ∧ (0 ≤ x → y = x ∧ s = (n4 : Int) ∧ o = none) := by
    rcases Int.lt_or_le x 0 with h | h
    · rw [hneg h]; exact ⟨0, 0, some 9, rfl, fun _ => rfl, fun h' => by omega⟩
    · rw [hpos h]; exact ⟨x, n4, none, by simp only [rvOut]; rw [Int.toNat_of_nonneg h], fun h' => by omega, fun _ => ⟨rfl, rfl, rfl⟩⟩
  rw [hrv]
  refine ⟨_, _, _, rfl, (num_bytes x w5).mono ?_⟩
  rintro e w6 ⟨a6, n6, c6, rfl, hf6⟩
  refine ⟨_, _, _, rfl, (readNum_spec _ _ _ _ w6 hf6.rdB).mono ?_⟩
  rintro e w7 ⟨rfl, rfl⟩
  rw [readNum_numL x hx.1 hx.2]
  have hc7 := (hc1.trans hf4.1).trans hf6.1
  refine ⟨_, _, rfl, fun b w' => b = false ∧ Chg [] w w', ⟨fun h => ?_, fun h => ?_⟩, ?_⟩
  · have hx0 : 0 ≤ x := by simpa using h
    obtain ⟨rfl, rfl, rfl⟩ := hyp hx0
    refine ⟨fun h => by simp at h, fun _ => ⟨_, neqS_nil hI none _ _, fun h => by simp at h, fun _ => ?_⟩⟩
    refine var_back y w7 hx _ fun a8 n8 c8 w8 l8 hf8 hn8 hneg8 hpos8 => ?_
    obtain rfl : n8 = n4 := by
      obtain ⟨m, rfl⟩ := Int.eq_ofNat_of_zero_le hx0
      have h4 := hpos hx0
      have h8 := hpos8 hx0
      have e4 := readVar_back h4
      have e8 := readVar_back h8
      have b4 := (readVarF_some h4)
      have b8 := (readVarF_some h8)
      have q4 := congrArg List.length e4
      have q8 := congrArg List.length e8
      rw [List.length_take] at q4 q8
      omega
    have hc8 := hc7.trans hf8.1
    exact ⟨_, _, _, rfl, fun h => by simp at h, fun _ => ⟨fun h => by simp at h; omega, fun _ => ⟨fun h => by simp at h, fun _ => ⟨_, neqS_nil hI none _ _, rfl, hc8⟩⟩⟩⟩
  · have hx0 : x < 0 := by simpa using h
    have := hyn hx0
    subst this
    exact ⟨fun _ => ⟨_, eqlS_nil hI (some 9) _ _, fun h => by simp at h, fun _ => ⟨_, neqS_nil hI none _ _, rfl, hc7⟩⟩, fun h => by simp at h; omega⟩
  rintro b w9 ⟨rfl, hc9⟩
  refine ⟨fun h => (by cases h), fun _ => ?_⟩
  -- the fields
  refine (pack_spec a n c vs ls w9 (hr.keep0 hc9) (h2.keep0 hc9) (by omega) (by omega)).mono ?_
  rintro e w10 ⟨a10, n10, c10, rfl, hf10⟩
  have hn10 := hf10.2.1
  refine ⟨_, _, _, rfl, thenC (unpack_spec _ _ _ _ (n : Int) w10 hf10.rdB (by omega) (by omega)) ?_⟩
  have hz : unpackZ (n : Int) (packL ls) = some ls := by
    have := unpack_pack ls [] hsm
    rw [List.append_nil, if_pos rfl] at this
    rw [unpackZ_nat, ← hln, this]
  rw [hz]
  rintro e w11 ⟨a11, n11, c11, vs11, rfl, hO⟩
  have hc11 := (hc9.trans hf10.1).trans hO.st.chg
  have hnum := hO.num
  refine ⟨_, _, _, _, rfl, fun b w' => b = false ∧ Chg [] w w', ⟨_, neqS_nil hI none _ _, fun h => by simp at h, fun _ => (same_spec _ _ _ _ ls a n c vs ls w11 hO.rd hO.row2 (hr.keep0 hc11) (h2.keep0 hc11) (by omega)).mono ?_⟩, ?_⟩
  · rintro e w12 ⟨rfl, hc12⟩
    exact ⟨_, rfl, by simp, hc11.trans hc12⟩
  rintro b w13 ⟨rfl, hc13⟩
  refine ⟨fun h => (by cases h), fun _ => (readVar_spec a1 n1 c1 l1 w13 (hr1.keep0 hc13)).mono ?_⟩
  rintro e w14 ⟨rfl, rfl⟩
  -- what is read, is written again
  have hc14 := hc13.trans (Chg.drew [] w14)
  obtain ⟨y, s, o, hrv, hfact⟩ : ∃ (y s : Int) (o : Option Int), rvOut (readVarF l1) = .tuple #[.int .i64 y, .int .i64 s, errV o] ∧ (o.isNone = true → ∃ m k : Nat, y = (m : Int) ∧ s = (k : Int) ∧ m < 9223372036854775808 ∧ 1 ≤ k ∧ k ≤ l1.length ∧ varL m = l1.take k) := by
    cases hv : readVarF l1 with
    | none => exact ⟨0, 0, some 9, rfl, by simp⟩
    | some q =>
      obtain ⟨m, k⟩ := q
      obtain ⟨h3, h4, _, h5⟩ := readVarF_some hv
      exact ⟨m, k, none, rfl, fun _ => ⟨m, k, rfl, rfl, h5, h3, h4, readVar_back hv⟩⟩
  rw [hrv]
  refine ⟨_, _, _, rfl, fun b w' => b = false ∧ Chg [] w w', ⟨fun w' => Chg [] w w', hc14, _, fun w' _ => eqlS_nil hI o _ w', fun ho => ?_, fun _ => ⟨hc14, rfl, hc14⟩⟩, ?_⟩
  · obtain ⟨m, k, rfl, rfl, hm, hk1, hk2, hvl⟩ := hfact ho
    refine ⟨fun h => by simp at h; omega, fun _ => ⟨fun h => by simp at h; omega, fun _ => ⟨fun h => by simp at h; omega, fun _ => ⟨by omega, by omega, _, fun w' h => toStr bS bE sS ((hr1.keep0 h).upto (k := k) (by omega)).cells (by simp; omega), (var_spec m _ hm).mono ?_⟩⟩⟩⟩
    rintro e w15 ⟨a15, n15, c15, rfl, hf15⟩
    exact ⟨_, _, _, rfl, fun w' => Chg [] w15 w', fun w' h => (hc14.trans hf15.1).trans h, Chg.refl _ _, _, fun w' h => toStr bS bE sS (hf15.cells.keep0 h) hf15.2.1, by simp [hvl], hc14.trans hf15.1⟩
  rintro b w16 ⟨rfl, hc16⟩
  refine ⟨fun h => (by cases h), fun _ => (frames_spec a1 n1 c1 l1 w16 (hr1.keep0 hc16) (by omega)).mono ?_⟩
  obtain ⟨hfb1, hfb2, hfb3⟩ := framesF_back (l1.length + 1) l1 0
  have hfl1 := framesF_len (l1.length + 1) l1 0
  obtain ⟨fs, p, hfp⟩ : ∃ fs p, framesF (l1.length + 1) l1 0 = (fs, p) := ⟨_, _, rfl⟩
  simp only [hfp, Nat.sub_zero, Nat.zero_add] at hfb1 hfb2 hfb3 hfl1 ⊢
  rintro e w17 ⟨a17, n17, c17, vs17, rfl, hO17⟩
  have hF := hO17.rdF
  have hnum17 := hO17.num
  have hc17 := hc16.trans hO17.st.chg
  have hvl17 := hO17.len
  have hmono : ∀ i, (frBytes (fs.take i)).length ≤ l1.length := fun i => by
    have e : frBytes fs = frBytes (fs.take i) ++ frBytes (fs.drop i) := by rw [frBytes, frBytes, frBytes, ← List.flatten_append, ← List.map_append, List.take_append_drop]
    have := congrArg List.length hfb1
    rw [e, List.length_append, List.length_take] at this
    omega
  obtain ⟨g18, w18, r18, h18⟩ := (St.start w17).lit bT [] (by simp) (by simp)
  refine ⟨_, _, _, _, rfl, _, _, _, _, r18, fun xa xn xc y w' => ∃ i : Nat, y = (i : Int) ∧ i ≤ n17 ∧ xn = (frBytes (fs.take i)).length ∧ St w17 [] w' [.row 5 1 (.slice xa xn xc) xn (bv (frBytes (fs.take i)))], fun _ _ _ y _ => n17 - y.toNat, ⟨0, rfl, by omega, by simp [frBytes], by simpa [frBytes] using h18⟩, ?_⟩
  rintro xa xn xc y w19 ⟨i, rfl, hi, rfl, hS⟩
  refine ⟨fun h => ?_, fun h => ?_⟩
  · have hi' : i < n17 := by simp at h; omega
    have hi2 : i < fs.length := by omega
    have aT : ∀ w, (isAgg 73).run Try.prog w = .ok true w := fun w => Try.isAgg73 w
    have sT : ∀ w, (sizeOf 73).run Try.prog w = .ok 3 w := fun w => Try.sizeOf73 w
    obtain ⟨av, nv, cv, hvi, hrdv⟩ := hF.row.rd i (by rw [List.length_map]; omega)
    have hvg : vs17.getD i .nilIface = .slice av nv cv := by rw [List.getD, hvi]; rfl
    obtain ⟨fr, hfr⟩ : ∃ fr, fs.getD i (0, [], 0) = fr := ⟨_, rfl⟩
    have hbody : (fs.map fun f => f.2.1).getD i [] = fr.2.1 := by
      rw [← hfr]; simp [List.getD, hi2]
    rw [hbody] at hrdv
    have hchunk : ((frCells vs17 fs).drop (i * 3)).take 3 = [Value.int .i64 (fr.1.toNat : Int), .slice av nv cv, .int .i64 (fr.2.2 : Int)] := by
      apply List.ext_getElem?
      intro j
      rw [List.getElem?_take]
      by_cases hj : j < 3
      · rw [if_pos hj, List.getElem?_drop, frCells_get hvl17 hi2 j hj, hfr, hvg]
      · rw [if_neg hj, List.getElem?_eq_none (by simp; omega)]
    obtain ⟨b, o, g20, w20, w21, ha, q1, q2, q3, h21⟩ := copyAgg hS aT sT frZ rfl (hF.rd.keep0 hS.chg).cells hchunk rfl (by decide) (by simp [Value.oneCell'])
    have hat : fr.2.2 = (frBytes (fs.take i)).length := by rw [← hfr]; exact hfb3 i hi2
    have hkl := fr.1.toNat_lt
    have ld0 := h21.ldL (P := Try.prog) (i := 1) (o := 0) rfl (iI _) rfl rfl
    refine ⟨b, o, ha, by omega, by omega, _, q1 _ (by omega), g20, w20, q2, w21, q3, fun b w' => b = false ∧ w' = w21, ⟨_, h21.ldL (i := 1) (o := 2) rfl (iI _) rfl rfl, fun h => by rw [hat] at h; simp at h, fun _ => ⟨_, ld0, fun h => by simp at h; omega, fun _ => ⟨_, ld0, by simp; omega, rfl⟩⟩⟩, ?_⟩
    rintro b w22 ⟨rfl, rfl⟩
    refine ⟨fun h => (by cases h), fun _ => ⟨_, ld0, _, _, _, h21.ldL (i := 1) (o := 1) rfl (bsA _) rfl rfl, ?_⟩⟩
    have h22 := St.pop (M := [_]) h21
    obtain ⟨g23, w23, r23, h23⟩ := h22.lit bbT [.slice av nv cv] (by simp [Value.oneCell']) (by simp)
    have hw8 : IntKind.wrap .u8 (fr.1.toNat : Int) = (fr.1.toNat : Int) := by rw [wrap_u8]; omega
    rw [hw8]
    have hbl : fr.2.1.length ≤ 262144 := by
      have h1 := getD_le_flat (ls := fs.map fun f => f.2.1) (i := i) (by rw [List.length_map]; omega)
      rw [hbody] at h1; omega
    refine ⟨_, _, _, _, r23, (frame_spec fr.1 _ 1 1 _ [fr.2.1] w23 (h23.rd (i := 1) rfl) ((Row2.nil _).cons (hrdv.keep0 h23.chg)) (by simp; omega) (by simp)).mono ?_⟩
    rintro e w24 ⟨a24, n24, c24, rfl, hf24⟩
    have hn24 := hf24.2.1
    have hft := frBytes_take hi2
    rw [hfr] at hft
    have e1 : [fr.2.1].flatten = fr.2.1 := by simp
    rw [e1] at hf24 hn24
    have hm1 := hmono (i + 1)
    rw [hft, List.length_append] at hm1
    have h24 := (hf24.add h23)
    obtain ⟨va, vc, w25, r25, h25⟩ := h24.appendB (i := 0) rfl (h24.rd (i := 2) rfl) (by omega)
    refine ⟨_, _, _, rfl, _, _, _, _, r25, ⟨i + 1, wrap_succ hi' (by omega), by omega, by rw [hft, List.length_append]; omega, ?_⟩, mu_succ hi' (by omega)⟩
    rw [hft]
    exact (h25.sub (List.Sublist.cons_cons _ (List.nil_sublist _)))
  · have hi' : i = n17 := by simp at h; omega
    subst hi'
    rw [← hnum17, List.take_length] at hS ⊢
    have hS' := hS.drew
    have hp : p ≤ l1.length := by omega
    refine ⟨fun w' => Chg [] w19.drew w', Chg.refl _ _, fun _ => ⟨fun _ => ⟨by omega, by omega, _, fun w' h => toStr bS bE sS ((hS'.cells (i := 0) rfl).keep0 h) rfl, _, fun w' h => toStr bS bE sS (((hr1.keep0 (hc17.trans hS'.chg)).keep0 h).upto (k := p) (by omega)).cells (by simp; omega), ?_, hc17.trans hS'.chg⟩, fun h => by simp at h; omega⟩, fun h => by rw [hfb2] at h; simp at h⟩
    simp [hfb1]

end Go.Proofs.Ytpfjakmbokkkoaa
