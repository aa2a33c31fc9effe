/- Contracts of pack: scanned, Open, Cut, Name of a small number (conditions: those that each theorem names). -/
import Derived.Test.YtmdandkoajocpaaGreatDoorPackE
namespace Go.Proofs.YtmdandkoajocpaaGreatDoor
open Go Sx
set_option maxRecDepth 8000

/-! ### in plain words -/
def openP (K : List UInt8) (num : Int) (b : List UInt8) : Option Int × List RefD :=
  if goodP num = false then (some 28, [])
  else if headF b ≠ some num then (some 17, [])
  else if 16 + (framesL (b.drop 16)).2 ≠ b.length ∨ (framesL (b.drop 16)).1.length ≠ (refsS num (framesL (b.drop 16)).2 (framesL (b.drop 16)).1).length + 1 then (some 17, [])
  else if ((framesL (b.drop 16)).1.getD (refsS num (framesL (b.drop 16)).2 (framesL (b.drop 16)).1).length (0, [], 0)).1 ≠ 3 then (some 17, [])
  else match openF K 3 (numL (n64 num)) ((framesL (b.drop 16)).1.getD (refsS num (framesL (b.drop 16)).2 (framesL (b.drop 16)).1).length (0, [], 0)).2.1 with
    | none => (some 10, [])
    | some p => if p = footL (refsS num (framesL (b.drop 16)).2 (framesL (b.drop 16)).1) then (none, refsS num (framesL (b.drop 16)).2 (framesL (b.drop 16)).1) else (some 10, [])

section
variable {w0 w w' : World} {X : List Nat} {M N N' T : List Res}

theorem scanned_spec (num : Int) (hnum : OkI num) (a : Option Addr) (n c : Nat) (b : List UInt8) (w : World) (hr : RdB w a n c b) (h16 : 16 ≤ n) (hb : n ≤ 1048576) :
    Calls Tryz.prog 56 #[.int .i64 num, .slice a n c] w fun e w' => ∃ fa fn fc ra rc g8 g9 L, L.map FrD.t = (framesL (b.drop 16)).1 ∧ RdFr w' fa fn fc L ∧ Chg [] w w' ∧
      e = .returned (.tuple #[.slice fa fn fc, .slice ra (refsS num (framesL (b.drop 16)).2 (L.map FrD.t)).length rc, .func (.func 89) #[] #[.pointer (some ⟨g8, 0, none⟩), .pointer (some ⟨g9, 0, none⟩)], .int .i64 ((16 + (framesL (b.drop 16)).2 : Nat) : Int)]) ∧
      RdR w' ra (refsS num (framesL (b.drop 16)).2 (L.map FrD.t)).length rc (refsS num (framesL (b.drop 16)).2 (L.map FrD.t)) ∧
      ∀ (w2 : World) (i : Nat), Chg [] w' w2 → i < fn → Calls Tryz.prog 89 #[.int .i64 (i : Int), .pointer (some ⟨g8, 0, none⟩), .pointer (some ⟨g9, 0, none⟩)] w2 fun r w'' => r = .returned (.int .i64 ((16 + endF (framesL (b.drop 16)).2 ((L.map FrD.t).drop (i + 1)) : Nat) : Int)) ∧ w'' = w2 := by
  have hl := hr.lenB
  subst hl
  have hcap := hr.le
  apply pack_scanned_vc
  refine ⟨by omega, by omega, by omega, fun t hs => ?_⟩
  refine (frames_spec t (b.length - 16) (c - 16) (b.drop 16) w (rdB_drop13 hr hs h16) (by omega)).mono ?_
  rintro e w1 ⟨fa, fn, fc, vs, rfl, hO⟩
  obtain ⟨L, hL, hF⟩ := hO.list
  obtain ⟨b1, b2, b3⟩ := framesF_bound ((b.drop 16).length + 1) (b.drop 16) 0
  obtain ⟨E, hE⟩ : ∃ E, (framesF ((b.drop 16).length + 1) (b.drop 16) 0).2 = E := ⟨_, rfl⟩
  have hEE : (framesL (b.drop 16)).2 = E := hE
  have hLL : L.map FrD.t = (framesL (b.drop 16)).1 := hL
  rw [hE] at b1 ⊢
  rw [hEE]
  have hdl : (b.drop 16).length = b.length - 16 := by simp
  have hfn : L.length = fn := hF.rd.num (by decide)
  have hLl : L.length ≤ 1048576 := by have := congrArg List.length hL; rw [List.length_map] at this; omega
  have hat : ∀ x ∈ L, x.at_ ≤ 1099511627776 ∧ x.body.length ≤ 1099511627776 := fun x hx => by
    have := b2 x.t (by rw [← hL]; exact List.mem_map_of_mem hx)
    simp only [FrD.t] at this
    omega
  obtain ⟨g8, w2, r2, h2⟩ := (St.start w1).zero fsZ
  obtain ⟨g9, w3, r3, h3⟩ := h2.zero inZ
  obtain ⟨w4, r4, h4⟩ := h3.st (i := 0) (o := 0) (v := .slice fa fn fc) rfl (fsS _) (by simp [Value.cells]) rfl
  obtain ⟨w5, r5, h5⟩ := h4.st (i := 1) (o := 0) (v := .int .i64 (E : Int)) rfl (inS' _) (by simp [Value.cells]) rfl
  have h5 : St w1 [] w5 [.blk g8 (.cells #[.slice fa fn fc] 132 (0, 0)), .blk g9 (.cells #[.int .i64 (E : Int)] 3 (0, 0))] := by simpa [Value.cells] using h5
  have ld8 : ∀ w', Chg [] w5 w' → (Instr.loadAt 132 (.pointer (some ⟨g8, 0, none⟩))).run Tryz.prog w' = .ok (.slice fa fn fc) w' := fun w' hc => (h5.same hc).ld (i := 0) rfl (fsA _) rfl
  have ld9 : ∀ w', Chg [] w5 w' → (Instr.loadAt 3 (.pointer (some ⟨g9, 0, none⟩))).run Tryz.prog w' = .ok (.int .i64 (E : Int)) w' := fun w' hc => (h5.same hc).ld (i := 1) rfl (inA _) rfl
  have ends : ∀ (w' : World) (i : Nat), Chg [] w5 w' → i < fn → Calls Tryz.prog 89 #[.int .i64 (i : Int), .pointer (some ⟨g8, 0, none⟩), .pointer (some ⟨g9, 0, none⟩)] w' fun r w'' => r = .returned (.int .i64 ((16 + endF E ((L.map FrD.t).drop (i + 1)) : Nat) : Int)) ∧ w'' = w' := fun w' i hc hi =>
    ends_spec i g8 g9 fa fn fc L E w' (ld8 w' hc) (ld9 w' hc) ((hF.keep0 h5.chg).keep0 hc) hi (by omega) (by omega) fun x hx => (hat x hx).1
  have hD := Chg.drew [] w5
  have q5 : (Instr.makeFunc (.func 89) #[] #[.pointer (some ⟨g8, 0, none⟩), .pointer (some ⟨g9, 0, none⟩)]).run Tryz.prog w5 = .ok (.func (.func 89) #[] #[.pointer (some ⟨g8, 0, none⟩), .pointer (some ⟨g9, 0, none⟩)]) w5 := by simp [Instr.makeFunc]
  refine ⟨_, _, _, _, rfl, g8, w2, r2, g9, w3, r3, w4, r4, w5, r5, _, w5, q5, fun w' => Chg [] w5 w', hD, _, _, _, ld8, _, _, _, ld8, _, ld9, (pkrefs_spec num hnum fa fn fc L E g8 g9 w5.drew ((hF.keep0 h5.chg).keep0 hD) (by omega) (by omega) hat fun w' i hc hi => ends w' i (hD.trans hc) hi).mono ?_⟩
  rintro e w7 ⟨ra, rc, rfl, h7⟩
  have c7 : Chg [] w5 w7 := hD.trans h7.chg
  have ew : IntKind.wrap .i64 ((16 : Int) + (E : Int)) = ((16 + E : Nat) : Int) := by rw [wrap_i64 (by omega) (by omega)]; omega
  rw [ew]
  exact ⟨_, _, _, rfl, fun w' => Chg [] w5 w', fun _ h => h, c7, fa, fn, fc, ra, rc, g8, g9, L, hLL, (hF.keep0 h5.chg).keep0 c7, (hO.st.chg.trans h5.chg).trans c7, rfl, rdRefs h7 (i := 0) rfl, fun w2 i hc hi => ends w2 i (c7.trans hc) hi⟩

theorem bytesEq_spec (a : Option Addr) (n c : Nat) (l : List UInt8) (a2 : Option Addr) (n2 c2 : Nat) (m : List UInt8) (w : World) (h1 : RdB w a n c l) (h2 : RdB w a2 n2 c2 m) :
    Calls Tryz.prog 59 #[.slice a n c, .slice a2 n2 c2] w fun e w' => e = .returned (.bool (decide (l = m))) ∧ w' = w := by
  apply bytes_Equal_vc
  refine ⟨_, toStr bS bE sS h1.cells h1.lenB, _, toStr bS bE sS h2.cells h2.lenB, ?_, rfl⟩
  rw [ByteArray.toList_eq, ByteArray.toList_eq]
  show _ = Ending.returned (.bool (decide (l = m)))
  by_cases h : l = m
  · subst h; simp
  · rw [decide_eq_false h]
    have : (l == m) = false := beq_eq_false_iff_ne.2 h
    exact congrArg (fun b => Ending.returned (.bool b)) this

set_option maxHeartbeats 1000000 in
theorem pkopen_spec (K : List UInt8) (hk : K.length = 96) (num : Int) (a : Option Addr) (n c : Nat) (b : List UInt8) (w : World) (hK : KTab w) (hr : RdB w a n c b) (hb : n ≤ 1000000) :
    Calls Tryz.prog 26 #[.agg (bv K).toArray, .int .i64 num, .slice a n c] w fun e w' => ∃ ra rc, e = .returned (.tuple #[.slice ra (openP K num b).2.length rc, errV (openP K num b).1]) ∧ RdR w' ra (openP K num b).2.length rc (openP K num b).2 ∧ Chg [] w w' := by
  obtain ⟨mI, hI⟩ := eI
  have hl := hr.lenB
  subst hl
  apply pack_Open_vc
  obtain ⟨g3, w1, r1, k1⟩ := (St.start w).boxA (P := Tryz.prog) 28 (bv K)
  have nilR : ∀ w', RdR w' none 0 0 [] := fun w' => RdE.nil w'
  refine ⟨g3, w1, r1, (pkgood_spec num w1).mono ?_⟩
  rintro e w2 ⟨rfl, rfl⟩
  refine ⟨_, rfl, fun hbad => ?_, fun hg => ?_⟩
  · have : goodP num = false := by simpa using hbad
    have ho : openP K num b = (some 28, []) := by unfold openP; rw [if_pos this]
    rw [ho]; exact ⟨none, 0, rfl, nilR _, k1.chg⟩
  have hg : goodP num = true := by simpa using hg
  have hgi := goodP_iff.1 hg
  have hgn : ¬ goodP num = false := by rw [hg]; simp
  refine (head_spec a b.length c b w2 (hr.keep0 k1.chg)).mono ?_
  rintro e w3 ⟨x, ok, rfl, hh, rfl⟩
  refine ⟨_, _, rfl, fun hbad => ?_, fun hgood => ?_⟩
  · have hne : headF b ≠ some num := by
      rw [hh]
      cases ok with
      | false => simp
      | true =>
        intro h
        simp at h hbad
        exact hbad h
    have ho : openP K num b = (some 17, []) := by unfold openP; rw [if_neg hgn, if_pos hne]
    rw [ho]; exact ⟨none, 0, rfl, nilR _, k1.chg⟩
  have hhe : headF b = some num := by
    cases ok with
    | false => simp at hgood
    | true => simp at hgood; rw [hh, hgood]; rfl
  have h16 : 16 ≤ b.length := by
    rw [headF] at hhe
    split at hhe
    · rename_i h; exact h.1
    · cases hhe
  refine (scanned_spec num ⟨by omega, by omega⟩ a b.length c b w3 (hr.keep0 k1.chg) h16 (by omega)).mono ?_
  rintro e w4 ⟨fa, fn, fc, ra, rc, g8, g9, L, hL, hF, c4, rfl, hR, _⟩
  obtain ⟨E, hE⟩ : ∃ E, (framesL (b.drop 16)).2 = E := ⟨_, rfl⟩
  have hop : openP K num b = (show Option Int × List RefD from if 16 + E ≠ b.length ∨ (L.map FrD.t).length ≠ (refsS num E (L.map FrD.t)).length + 1 then (some 17, [])
      else if ((L.map FrD.t).getD (refsS num E (L.map FrD.t)).length (0, [], 0)).1 ≠ 3 then (some 17, [])
      else match openF K 3 (numL (n64 num)) ((L.map FrD.t).getD (refsS num E (L.map FrD.t)).length (0, [], 0)).2.1 with
        | none => (some 10, [])
        | some p => if p = footL (refsS num E (L.map FrD.t)) then (none, refsS num E (L.map FrD.t)) else (some 10, [])) := by
    unfold openP
    rw [if_neg hgn, if_neg (by rw [hhe]; simp), hL, hE]
  rw [hE] at hR ⊢
  obtain ⟨rs, hrs⟩ : ∃ rs, refsS num E (L.map FrD.t) = rs := ⟨_, rfl⟩
  have hfn : L.length = fn := hF.rd.num (by decide)
  have hrl : rs.length ≤ L.length := by rw [← hrs]; simpa using refsS_len num E (L.map FrD.t)
  rw [hrs] at hop hR ⊢
  have hml : (L.map FrD.t).length = fn := by rw [List.length_map, hfn]
  rw [hml] at hop
  have hLb : L.length ≤ 1000000 := by
    have h3 := (framesF_bound ((b.drop 16).length + 1) (b.drop 16) 0).2.2
    have := congrArg List.length hL
    rw [List.length_map] at this
    have hd : (framesL (b.drop 16)).1.length ≤ (b.drop 16).length := h3
    simp only [List.length_drop] at hd
    omega
  have ew : IntKind.wrap .i64 (((rs.length : Nat) : Int) + 1) = ((rs.length + 1 : Nat) : Int) := by rw [wrap_i64 (by omega) (by omega)]; omega
  have k4 := (k1.same c4)
  refine ⟨_, _, _, _, _, _, _, _, rfl, ?_⟩
  rw [ew]
  refine ⟨fun y w' => y = !decide ((16 + E = b.length ∧ fn = rs.length + 1) ∧ ((L.map FrD.t).getD rs.length (0, [], 0)).1 = 3) ∧ w' = w4, ⟨fun hbad => ?_, fun hgood => ?_⟩, ?_⟩
  · have : ¬ (16 + E = b.length ∧ fn = rs.length + 1) := by
      rintro ⟨h1, h2⟩
      rw [h1, h2] at hbad
      simp at hbad
    exact ⟨by simp [this], rfl⟩
  · have h12 : 16 + E = b.length ∧ fn = rs.length + 1 := by
      simp only [Bool.or_eq_false_iff, bne_eq_false_iff_eq] at hgood
      omega
    have hx : L[rs.length]? = some L[rs.length] := List.getElem?_eq_getElem (by omega)
    obtain ⟨x, hxx⟩ : ∃ x, L[rs.length] = x := ⟨_, rfl⟩
    rw [hxx] at hx
    obtain ⟨bb, o, hab, q⟩ := hF.rd.fld (P := Tryz.prog) (by decide) inA (j := 0) hx rfl
    have hgd : (L.map FrD.t).getD rs.length (0, [], 0) = x.t := by rw [List.getD_eq_getElem?_getD, List.getElem?_map, hx]; rfl
    refine ⟨bb, o, hab, by omega, by omega, _, q w4 hF.rd, ?_, rfl⟩
    rw [hgd]
    have h3 : (3 : UInt8).toNat = 3 := rfl
    by_cases hk3 : x.k = 3
    · rw [decide_eq_true (show (16 + E = b.length ∧ fn = rs.length + 1) ∧ x.t.1 = 3 from ⟨h12, hk3⟩), hk3]; rfl
    · rw [decide_eq_false (fun h : (16 + E = b.length ∧ fn = rs.length + 1) ∧ x.t.1 = 3 => hk3 h.2)]
      have : (x.k.toNat : Int) ≠ 3 := fun h => hk3 (UInt8.toNat_inj.1 (by omega))
      simpa using this
  rintro y w5 ⟨rfl, rfl⟩
  refine ⟨fun hbad => ?_, fun hgood => ?_⟩
  · have hb := ndT hbad
    have ho : openP K num b = (some 17, []) := by
      rw [hop]
      by_cases h12 : 16 + E = b.length ∧ fn = rs.length + 1
      · have h3 : ((L.map FrD.t).getD rs.length (0, [], 0)).1 ≠ 3 := fun h => hb ⟨h12, h⟩
        rw [if_neg (by omega), if_pos h3]
      · rw [if_pos (by omega)]
    rw [ho]; exact ⟨none, 0, rfl, nilR _, k1.chg.trans c4⟩
  have hgd := ndF hgood
  obtain ⟨⟨h1, h2⟩, h3⟩ := hgd
  rw [if_neg (by omega), if_neg (by simpa using h3)] at hop
  have hx : L[rs.length]? = some L[rs.length] := List.getElem?_eq_getElem (by omega)
  obtain ⟨x, hxx⟩ : ∃ x, L[rs.length] = x := ⟨_, rfl⟩
  rw [hxx] at hx
  have hgd : (L.map FrD.t).getD rs.length (0, [], 0) = x.t := by rw [List.getD_eq_getElem?_getD, List.getElem?_map, hx]; rfl
  rw [hgd] at hop
  have hop : openP K num b = (match openF K 3 (numL (n64 num)) x.body with
        | none => ((some 10, []) : Option Int × List RefD)
        | some p => if p = footL rs then (none, rs) else (some 10, [])) := hop
  have hxb := hF.body x (List.mem_of_getElem? hx)
  have hxl : x.body.length ≤ 1000000 := by
    have hm : x.t ∈ (framesL (b.drop 16)).1 := by rw [← hL]; exact List.mem_map_of_mem (List.mem_of_getElem? hx)
    have := ((framesF_bound ((b.drop 16).length + 1) (b.drop 16) 0).2.1 x.t hm).2
    simp only [FrD.t, List.length_drop] at this
    omega
  obtain ⟨bb, o, hab, q⟩ := hF.rd.fld (P := Tryz.prog) (by decide) bsA' (j := 1) hx rfl
  have hD := Chg.drew [] w5
  let S : World → Prop := fun w' => Chg [] w5 w'
  refine ⟨S, hD, bb, o, hab, by omega, by omega, _, fun w' hw => (k4.same hw).ldA (i := 0) (l := bv K) rfl (kyA' _) (kyS' _) (by simp [hk]), _, _, _, fun w' hw => q w' (hF.rd.keep0 hw), (num_bytes' num _).mono ?_⟩
  rintro e w6 ⟨a6, c6, rfl, hf6⟩
  have d6 : Chg [] w5 w6 := hD.trans hf6.1
  refine ⟨_, _, _, rfl, S, fun _ h => h, d6, (open_spec K 3 a6 8 c6 (numL (n64 num)) x.a x.body.length x.c x.body w6 hk (((hK.keep0 k1.chg).keep0 c4).keep0 d6) hf6.rdB (hxb.keep0 d6) (by omega)).mono ?_⟩
  rintro e w7 ⟨a7, n7, c7, rfl, hf7⟩
  have d7 : Chg [] w5 w7 := d6.trans hf7.1
  have hc7 : Chg [] w w7 := (k1.chg.trans c4).trans d7
  rw [openE] at *
  refine ⟨_, _, _, _, rfl, S, fun _ h => h, d7, _, neqS_nil hI _ _ _, fun hbad => ?_, fun hgood => ?_⟩
  · cases ho : openF K 3 (numL (n64 num)) x.body with
    | none =>
      rw [ho] at hop
      rw [hop]; exact ⟨none, 0, rfl, nilR _, hc7⟩
    | some p => rw [ho] at hbad; simp at hbad
  cases ho : openF K 3 (numL (n64 num)) x.body with
  | none => rw [ho] at hgood; simp at hgood
  | some p =>
    rw [ho] at hop hf7
    refine (footPlain_spec ra rs.length rc rs w7 (hR.keep0 d7) (by omega)).mono ?_
    rintro e w8 ⟨a8, n8, c8, rfl, hf8⟩
    refine ⟨_, _, _, rfl, (bytesEq_spec a7 n7 c7 p a8 n8 c8 (footL rs) w8 (hf7.rdB.keep0 hf8.1) hf8.rdB).mono ?_⟩
    rintro e w9 ⟨rfl, rfl⟩
    have hop : openP K num b = if p = footL rs then (none, rs) else (some 10, []) := hop
    refine ⟨_, rfl, fun hbad => ?_, fun hgood => ?_⟩
    · rw [if_neg (ndT hbad)] at hop
      rw [hop]; exact ⟨none, 0, rfl, nilR _, hc7.trans hf8.1⟩
    · rw [if_pos (ndF hgood)] at hop
      rw [hop]; exact ⟨ra, rc, rfl, (hR.keep0 d7).keep0 hf8.1, hc7.trans hf8.1⟩

end

end Go.Proofs.YtmdandkoajocpaaGreatDoor
