/- The document's answer of chapter 13: foot, Pieces, Build (conditions: those that each theorem names). -/
import Derived.Test.YtmdandkoajocpaaGreatDoorPackL
import Derived.Test.YtmdandkoajocpaaGreatDoorSealI
import Derived.Test.YtmdandkoajocpaaGreatDoorWireB
import Derived.Test.YtmdandkoajocpaaGreatDoorVref13
namespace Go.Proofs.YtmdandkoajocpaaGreatDoor
open Go Sx
set_option maxRecDepth 8000

section
variable {w0 w w' : World} {X : List Nat} {M N N' T : List Res}

theorem rnum8 (x : Int) (w : World) : Calls Tryz.prog 74 #[.int .i64 x] w fun e w' => ∃ a c, e = .returned (.slice a 8 c) ∧ FreshB w w' a 8 c (numL (n64 x)) := by
  refine (rnum_bytes x w).mono ?_
  rintro e w' ⟨a, n, c, rfl, hf⟩
  have hn : n = 8 := by rw [← hf.2.1]; exact numL_len _
  subst hn
  exact ⟨a, c, rfl, hf⟩

/-- The identifier of a thing of a row, as a row of bytes. -/
theorem idIn {α : Type} {enc : α → List Value} {k : Nat} {a : Option Addr} {n c i : Nat} {l : List α} {x : α} {id : List UInt8} {tl : List Value} (h : RdE enc k w a n c l) (hk : 0 < k) (hx : l[i]? = some x) (he : enc x = bv id ++ tl) (hl : id.length = 32) :
    ∃ b o, a = some ⟨b, o, none⟩ ∧ ∀ w', RdE enc k w' a n c l → RdB w' (some ⟨b, o + Int.toNat (i : Int) * k, none⟩) 32 32 id := by
  obtain ⟨b, o, hab, hr⟩ := h.at_ hk hx
  refine ⟨b, o, hab, fun w' h' => ⟨.inr ⟨b, _, rfl, fun j v hj => ?_⟩, by simp [hl], Nat.le_refl _, by simp⟩⟩
  rw [Int.toNat_natCast]
  refine hr w' h' j v ?_
  rw [he, List.getElem?_append_left (List.getElem?_eq_some_iff.1 hj).1]; exact hj

theorem refAt3 (r : RefD) : (refC r)[33]? = some (.int .i64 r.at_) ∧ (refC r)[34]? = some (.int .i64 r.len) := by
  constructor <;> rw [refC, List.getElem?_append_right (by simp [r.idl])] <;> simp [r.idl]

theorem rfoot_spec (a : Option Addr) (n c : Nat) (l : List RefD) (w : World) (hr : RdR w a n c l) (hb : n ≤ 1000000) :
    Calls Tryz.prog 77 #[.slice a n c] w fun e w' => ∃ a' n' c', e = .returned (.slice a' n' c') ∧ FreshB w w' a' n' c' (footL l) := by
  have hln := hr.num (by decide)
  apply amphoraref13_foot_vc
  have h1 : St w [] w [.row 5 1 (.slice none 0 0) 0 (bv (footL (l.take 0)))] := (St.start w).addNil _ _
  refine ⟨fun xa xn xc x w' => ∃ i : Nat, x = (i : Int) ∧ i ≤ n ∧ St w [] w' [.row 5 1 (.slice xa xn xc) xn (bv (footL (l.take i)))], fun _ _ _ x _ => n - x.toNat, ⟨0, rfl, by omega, h1⟩, ?_⟩
  rintro xa xn xc x w2 ⟨i, rfl, hi, h2⟩
  have hxn : xn = 48 * i := by
    have e1 := (h2.rd (i := 0) rfl).lenB
    rw [footL_len, List.length_take] at e1
    omega
  refine ⟨fun h => ?_, fun h => ?_⟩
  · have hi' : i < n := by simp at h; omega
    have ha : l[i]? = some l[i] := List.getElem?_eq_getElem (by omega)
    obtain ⟨r, hrr⟩ : ∃ r, l[i] = r := ⟨_, rfl⟩
    rw [hrr] at ha
    obtain ⟨b1, o1, hab1, q1⟩ := idIn hr (by decide) ha (show refC r = bv r.id ++ _ from rfl) r.idl
    obtain ⟨b2, o2, hab2, q2⟩ := hr.fld (P := Tryz.prog) (by decide) inA (j := 33) ha (refAt3 r).1
    obtain ⟨b3, o3, hab3, q3⟩ := hr.fld (P := Tryz.prog) (by decide) inA (j := 34) ha (refAt3 r).2
    obtain ⟨va, vc, w3, r3, h3⟩ := h2.appendB (i := 0) rfl (q1 w2 (hr.keep0 h2.chg)) (by omega)
    have h3 : St w [] w3 [.row 5 1 (.slice va (xn + 32) vc) (xn + 32) (bv (footL (l.take i) ++ r.id))] := h3
    refine ⟨b1, o1, hab1, by omega, by omega, by omega, by omega, _, _, _, w3, r3, b2, o2, hab2, by omega, by omega, _, q2 w3 (hr.keep0 h3.chg), (rnum8 r.at_ w3).mono ?_⟩
    rintro e w6 ⟨a6, c6, rfl, hf6⟩
    have h6 : St w [] w6 [.row 5 1 (.slice va (xn + 32) vc) (xn + 32) (bv (footL (l.take i) ++ r.id)), .row 5 1 (.slice a6 8 c6) 8 (bv (numL (n64 r.at_)))] := hf6.add h3
    obtain ⟨vd, ve, w7, r7, h7⟩ := h6.appendB (i := 0) rfl (h6.rd (i := 1) rfl) (by omega)
    have h7 : St w [] w7 [.row 5 1 (.slice vd (xn + 32 + 8) ve) (xn + 32 + 8) (bv (footL (l.take i) ++ r.id ++ numL (n64 r.at_))), .row 5 1 (.slice a6 8 c6) 8 (bv (numL (n64 r.at_)))] := h7
    refine ⟨_, _, _, rfl, _, _, _, w7, r7, b3, o3, hab3, by omega, by omega, _, q3 w7 (hr.keep0 h7.chg), (rnum8 r.len w7).mono ?_⟩
    rintro e w8 ⟨a8, c8, rfl, hf8⟩
    have h8 : St w [] w8 [.row 5 1 (.slice vd (xn + 32 + 8) ve) (xn + 32 + 8) (bv (footL (l.take i) ++ r.id ++ numL (n64 r.at_))), .row 5 1 (.slice a6 8 c6) 8 (bv (numL (n64 r.at_))), .row 5 1 (.slice a8 8 c8) 8 (bv (numL (n64 r.len)))] := hf8.add h7
    obtain ⟨vf, vg, w9, r9, h9⟩ := h8.appendB (i := 0) rfl (h8.rd (i := 2) rfl) (by omega)
    refine ⟨_, _, _, rfl, _, _, _, w9, r9, ⟨i + 1, wrap_succ hi' (by omega), by omega, ?_⟩, mu_succ hi' (by omega)⟩
    have e2 : footL (l.take (i + 1)) = footL (l.take i) ++ r.id ++ numL (n64 r.at_) ++ numL (n64 r.len) := by
      rw [List.take_add_one, ha]; simp [footL, refBy, List.append_assoc]
    rw [e2]
    exact h9.sub (List.Sublist.cons_cons _ (List.nil_sublist _))
  · have hi' : i = n := by simp at h; omega
    rw [hi', List.take_of_length_le (by omega)] at h2
    exact ⟨_, _, _, rfl, h2.freshB (i := 0) rfl⟩

set_option maxHeartbeats 2000000 in
theorem rpieces_spec (K : List UInt8) (hk : K.length = 96) (num : Int) (a : Option Addr) (n c : Nat) (l : List ItD) (w : World) (hg : goodP num = true) (hr : ItR w a n c l) (hs : SmallI (l.map ItD.t)) :
    Calls Tryz.prog 41 #[.agg (bv K).toArray, .int .i64 num, .slice a n c] w fun e w' => ∃ (ps : List PcD) (la : Option Addr) (lc : Nat) (ra : Option Addr) (rc : Nat), e = .returned (.tuple #[.slice la ps.length lc, .slice ra (refsP num 16 (l.map ItD.t)).length rc]) ∧ ps.map PcD.l = piecesP K num (l.map ItD.t) ∧
      St w [] w' ([.row 33 1 (.slice la ps.length lc) ps.length (ps.map PcD.v), .row 75 35 (.slice ra (refsP num 16 (l.map ItD.t)).length rc) (refsP num 16 (l.map ItD.t)).length ((refsP num 16 (l.map ItD.t)).flatMap refC)] ++ ps.map PcD.row) := by
  have hln := hr.rd.num (by decide)
  have hnum := hs.num
  rw [List.length_map] at hnum
  have hgi := goodP_iff.1 hg
  have hbl : ∀ x ∈ l, x.n ≤ 16777216 ∧ x.blob.length = x.n := fun x hx => by
    have h1 := (hr.blobs x hx).lenB
    have h2 : x.blob.length ≤ 16777216 := hs.blob (List.mem_map_of_mem hx)
    omega
  apply amphoraref13_Pieces_vc
  obtain ⟨g3, w1, r1, k1⟩ := (St.start w).boxA (P := Tryz.prog) 28 (bv K)
  obtain ⟨g2, w2, r2, k2⟩ := k1.lit bT (bv magicL) (bv_one _) (by decide)
  have k2 : St w [] w2 [.arr g3 28 (bv K), .row 5 1 (.slice (some ⟨g2, 0, none⟩) 8 8) 8 (bv magicL)] := k2
  obtain ⟨w3, o, r3, k3, ho⟩ := convHold k2 (i := 1) rfl
  have k3 : St w [] w3 [.arr g3 28 (bv K), .blk g2 o] := k3
  refine ⟨g3, w1, r1, _, _, _, w2, r2, _, _, _, w3, r3, (rnum8 num w3).mono ?_⟩
  rintro e w4 ⟨a4, c4, rfl, hf4⟩
  have k4 : St w [] w4 [.arr g3 28 (bv K), .blk g2 o, .row 5 1 (.slice a4 8 c4) 8 (bv (numL (n64 num)))] := hf4.add k3
  obtain ⟨va, vc, w5, r5, k5⟩ := k4.appendRdB (ho _ (k4.holds 1 _ rfl)) (by simp) (k4.rd (i := 2) rfl) (by decide) (by decide)
  have k5 : St w [] w5 [.arr g3 28 (bv K), .blk g2 o, .row 5 1 (.slice a4 8 c4) 8 (bv (numL (n64 num))), .row 5 1 (.slice va 16 vc) 16 (bv (headP num))] := k5
  have k5n := k5.addNil 33 1
  obtain ⟨g6, w6, vb, vd, w7, r6, r7, k7, _, _⟩ := k5n.pushV (i := 4) (ty := 23) bbT rfl (.slice va 16 vc) rfl (by omega) (by simp only [maxLen]; omega)
  have k7 : St w [] w7 [.arr g3 28 (bv K), .blk g2 o, .row 5 1 (.slice a4 8 c4) 8 (bv (numL (n64 num))), .row 5 1 (.slice va 16 vc) 16 (bv (headP num)), .row 33 1 (.slice vb 1 vd) 1 [.slice va 16 vc]] := k7
  have k7n := k7.addNil 75 35
  have start : St w [] w7 ([.arr g3 28 (bv K), .row 33 1 (.slice vb ([(⟨va, vc, headP num⟩ : PcD)]).length vd) ([(⟨va, vc, headP num⟩ : PcD)]).length (([(⟨va, vc, headP num⟩ : PcD)]).map PcD.v), .row 75 35 (.slice none (refsP num 16 ((l.map ItD.t).take 0)).length 0) (refsP num 16 ((l.map ItD.t).take 0)).length ((refsP num 16 ((l.map ItD.t).take 0)).flatMap refC)] ++ ([(⟨va, vc, headP num⟩ : PcD)]).map PcD.row) := by
    have e16 : (headP num).length = 16 := headP_len num
    have h1 := k7n.sub (N := [.arr g3 28 (bv K), .row 5 1 (.slice va 16 vc) 16 (bv (headP num)), .row 33 1 (.slice vb 1 vd) 1 [.slice va 16 vc], .row 75 35 (.slice none 0 0) 0 []]) (by simp)
    have h2 := h1.perm (N := [.arr g3 28 (bv K), .row 33 1 (.slice vb 1 vd) 1 [.slice va 16 vc], .row 75 35 (.slice none 0 0) 0 [], .row 5 1 (.slice va 16 vc) 16 (bv (headP num))]) (List.Perm.cons _ (List.perm_append_comm (l₁ := [_])))
    simpa [PcD.v, PcD.row, e16, refsP] using h2
  refine ⟨_, _, _, rfl, _, _, _, w5, r5, _, _, _, w6, r6, _, _, _, w7, r7, fun xa xn xc ya yn yc sz x w' => ∃ (i : Nat) (ps : List PcD), x = (i : Int) ∧ i ≤ n ∧ xn = ps.length ∧ yn = (refsP num 16 ((l.map ItD.t).take i)).length ∧ sz = ((sizeP 16 ((l.map ItD.t).take i) : Nat) : Int) ∧ ps.map PcD.l = headP num :: ((l.map ItD.t).take i).map frmT ∧
    St w [] w' ([.arr g3 28 (bv K), .row 33 1 (.slice xa ps.length xc) ps.length (ps.map PcD.v), .row 75 35 (.slice ya (refsP num 16 ((l.map ItD.t).take i)).length yc) (refsP num 16 ((l.map ItD.t).take i)).length ((refsP num 16 ((l.map ItD.t).take i)).flatMap refC)] ++ ps.map PcD.row), fun _ _ _ _ _ _ _ x _ => n - x.toNat, ⟨0, [⟨va, vc, headP num⟩], rfl, by omega, rfl, rfl, rfl, rfl, start⟩, ?_⟩
  rintro xa xn xc ya yn yc sz x w8 ⟨i, ps, rfl, hi, rfl, rfl, rfl, hps, k8⟩
  have hst := hs.take i
  have hby := hst.bytes
  have hpl : ps.length = i + 1 := by
    have := congrArg List.length hps
    simp only [List.length_map, List.length_cons, List.length_take] at this
    omega
  have hsz : sizeP 16 ((l.map ItD.t).take i) ≤ 16950016 := by rw [sizeP_eq]; omega
  have hrl : (refsP num 16 ((l.map ItD.t).take i)).length = i := by rw [refsP_len, List.length_take, List.length_map]; omega
  refine ⟨fun h => ?_, fun h => ?_⟩
  · have hi' : i < n := by simp at h; omega
    have hx : l[i]? = some l[i] := List.getElem?_eq_getElem (by omega)
    obtain ⟨x, hxx⟩ : ∃ x, l[i] = x := ⟨_, rfl⟩
    rw [hxx] at hx
    have hxm := List.mem_of_getElem? hx
    obtain ⟨hxn, hxl⟩ := hbl x hxm
    have hid := x.idl
    obtain ⟨b1, o1, hab1, q1⟩ := idIn hr.rd (by decide) hx (show itC x = bv x.id ++ _ from rfl) x.idl
    obtain ⟨b2, o2, hab2, q2⟩ := hr.rd.fld (P := Tryz.prog) (by decide) bsA' (j := 32) hx (itC_blob x)
    obtain ⟨b3, o3, hab3, q3⟩ := itId hr.rd hx
    obtain ⟨L, hL⟩ : ∃ L, ([.arr g3 28 (bv K), .row 33 1 (.slice xa ps.length xc) ps.length (ps.map PcD.v), .row 75 35 (.slice ya (refsP num 16 ((l.map ItD.t).take i)).length yc) (refsP num 16 ((l.map ItD.t).take i)).length ((refsP num 16 ((l.map ItD.t).take i)).flatMap refC)] ++ ps.map PcD.row : List Res) = L := ⟨_, rfl⟩
    rw [hL] at k8
    obtain ⟨g9, w9, r9, k9⟩ := k8.lit bT [] (by simp) (by simp)
    have k9 : St w [] w9 (L ++ [.row 5 1 (.slice (some ⟨g9, 0, none⟩) 0 0) 0 (bv [])]) := k9
    obtain ⟨vd, ve, w10, r10, k10⟩ := k9.appendB (i := L.length) (by rw [List.getElem?_append_right (Nat.le_refl _), Nat.sub_self]; rfl) (q1 w9 (hr.rd.keep0 k9.chg)) (by omega)
    rw [List.set_append_right _ _ (Nat.le_refl _), Nat.sub_self] at k10
    have k10 : St w [] w10 (L ++ [.row 5 1 (.slice vd (0 + 32) ve) (0 + 32) (bv x.id)]) := k10
    have hblob := (hr.blobs x hxm).keep0 k10.chg
    obtain ⟨vf, vg, w11, r11, k11⟩ := k10.appendB (i := L.length) (by rw [List.getElem?_append_right (Nat.le_refl _), Nat.sub_self]; rfl) hblob (by omega)
    rw [List.set_append_right _ _ (Nat.le_refl _), Nat.sub_self] at k11
    have k11 : St w [] w11 (L ++ [.row 5 1 (.slice vf (0 + 32 + x.n) vg) (0 + 32 + x.n) (bv (x.id ++ x.blob))]) := k11
    refine ⟨_, _, _, w9, r9, b1, o1, hab1, by omega, by omega, by omega, by omega, _, _, _, w10, r10, b2, o2, hab2, by omega, by omega, _, _, _, q2 w10 (hr.rd.keep0 k10.chg), _, _, _, w11, r11, (rframe_spec 2 vf (0 + 32 + x.n) vg (x.id ++ x.blob) w11 (k11.rd (i := L.length) (by rw [List.getElem?_append_right (Nat.le_refl _), Nat.sub_self]; rfl)) (by omega)).mono ?_⟩
    rintro e w12 ⟨a12, n12, c12, rfl, hf12⟩
    obtain ⟨F, hF⟩ : ∃ F, frmT x.t = F := ⟨_, rfl⟩
    obtain ⟨fl1, fl2⟩ := frmT_len x.t hid (by show x.blob.length ≤ _; omega)
    have hxt2 : x.t.2.length = x.n := hxl
    rw [hF] at fl1 fl2
    have hf12 : FreshB w11 w12 a12 n12 c12 F := by rw [← hF]; exact hf12
    have hfn : F.length = n12 := hf12.2.1
    subst hfn
    have k12 : St w [] w12 (L ++ [.row 5 1 (.slice a12 F.length c12) F.length (bv F)]) := by
      have := (hf12.add k11).sub (N := L ++ [.row 5 1 (.slice a12 F.length c12) F.length (bv F)]) (List.Sublist.append_right (List.sublist_append_left _ _) _)
      exact this
    obtain ⟨g13, w13, vh, vi, w14, r13, r14, k14, _, _⟩ := k12.pushV (i := 1) (ty := 23) bbT (by rw [← hL]; rfl) (.slice a12 F.length c12) rfl (by omega) (by simp only [maxLen]; omega)
    have k14 : St w [] w14.drew ([.arr g3 28 (bv K), .row 33 1 (.slice vh (ps.length + 1) vi) (ps.length + 1) (ps.map PcD.v ++ [.slice a12 F.length c12]), .row 75 35 (.slice ya (refsP num 16 ((l.map ItD.t).take i)).length yc) (refsP num 16 ((l.map ItD.t).take i)).length ((refsP num 16 ((l.map ItD.t).take i)).flatMap refC)] ++ (ps.map PcD.row ++ [.row 5 1 (.slice a12 F.length c12) F.length (bv F)])) := by
      rw [← hL] at k14
      simpa using k14.drew
    let S : World → Prop := fun w' => Chg [] w w'
    have ei : IntKind.wrap .i64 (((sizeP 16 ((l.map ItD.t).take i) : Nat) : Int) + ((F.length : Nat) : Int)) = ((sizeP 16 ((l.map ItD.t).take i) + F.length : Nat) : Int) := by rw [wrap_i64 (by omega) (by omega)]; omega
    have eA : IntKind.wrap .i64 (((sizeP 16 ((l.map ItD.t).take i) + F.length : Nat) : Int) - ((x.n : Nat) : Int)) = ((sizeP 16 ((l.map ItD.t).take i) + F.length : Nat) : Int) - ((x.n : Nat) : Int) := wrap_i64 (by omega) (by omega)
    have eC := refC_mk hid (p := num) (q := ((sizeP 16 ((l.map ItD.t).take i) + F.length : Nat) : Int) - ((x.n : Nat) : Int)) (n := ((x.n : Nat) : Int)) ⟨by omega, by omega⟩ ⟨by omega, by omega⟩ ⟨by omega, by omega⟩
    obtain ⟨r, hrr⟩ : ∃ r, mkRef x.id num (((sizeP 16 ((l.map ItD.t).take i) + F.length : Nat) : Int) - ((x.n : Nat) : Int)) ((x.n : Nat) : Int) = r := ⟨_, rfl⟩
    rw [hrr] at eC
    obtain ⟨g15, w15, vj, vk, w16, r15, r16, k16, k15⟩ := k14.pushA (i := 2) (ty := 34) rfT rfl (refC r) (refC_len r) (by decide) (refC_one r) (by omega) (by simp only [maxLen]; omega)
    have k16 : St w [] w16 ([.arr g3 28 (bv K), .row 33 1 (.slice vh (ps.length + 1) vi) (ps.length + 1) (ps.map PcD.v ++ [.slice a12 F.length c12]), .row 75 35 (.slice vj ((refsP num 16 ((l.map ItD.t).take i)).length + 1) vk) ((refsP num 16 ((l.map ItD.t).take i)).length + 1) ((refsP num 16 ((l.map ItD.t).take i)).flatMap refC ++ refC r)] ++ (ps.map PcD.row ++ [.row 5 1 (.slice a12 F.length c12) F.length (bv F)])) := k16
    have et : (l.map ItD.t).take (i + 1) = (l.map ItD.t).take i ++ [x.t] := by
      rw [List.take_add_one, List.getElem?_map, hx]; rfl
    have hrt : refsP num 16 ((l.map ItD.t).take (i + 1)) = refsP num 16 ((l.map ItD.t).take i) ++ [r] := by
      rw [et, refsP_snoc, hF, ← hrr, hxt2]; rfl
    refine ⟨_, _, _, rfl, _, _, _, w13, r13, _, _, _, w14, r14, S, k14.chg, b3, o3, hab3, by omega, by omega, b2, o2, hab2, by omega, by omega, b2, o2, hab2, by omega, by omega, _, fun w' hw => q3 w' (hr.rd.keep0 hw), _, _, _, fun w' hw => q2 w' (hr.rd.keep0 hw), _, _, _, fun w' hw => q2 w' (hr.rd.keep0 hw), _, fun w' _ => by rw [ei, eA]; exact ref_parts x.id num _ _ w' hid, _, _, _, w15, by rw [← eC]; exact r15, S, fun _ h => h, k15.chg, _, _, _, w16, r16, S, fun _ h => h, k16.chg, ?_, mu_succ hi' (by omega)⟩
    refine ⟨i + 1, ps ++ [⟨a12, c12, F⟩], wrap_succ hi' (by omega), by omega, by simp, by rw [hrt]; simp, ?_, ?_, ?_⟩
    · rw [et, sizeP_snoc, hF, ei]
    · rw [List.map_append, hps, et, List.map_append, ← hF]; simp
    · rw [hrt]
      simpa [PcD.v, PcD.row] using k16
  · have hi' : i = n := by simp at h; omega
    rw [hi', List.take_of_length_le (by simp; omega)] at k8 hps hrl
    have k8d := k8.drew
    let S : World → Prop := fun w' => St w [] w' [.arr g3 28 (bv K)]
    have sub1 : ∀ {w' : World} {L : List Res}, St w [] w' (.arr g3 28 (bv K) :: L) → S w' := fun h => h.sub (List.Sublist.cons_cons _ (List.nil_sublist _))
    obtain ⟨xs, hxs⟩ : ∃ xs, l.map ItD.t = xs := ⟨_, rfl⟩
    have hsl : (refsP num 16 (l.map ItD.t)).length ≤ 4096 := by rw [refsP_len, List.length_map]; omega
    rw [hi', List.take_of_length_le (by simp; omega)]
    rw [hxs] at k8d hps hrl hsl ⊢
    refine ⟨S, sub1 k8d, _, fun w' hw => Sx.St.ldA hw (i := 0) (l := bv K) rfl (kyA' _) (kyS' _) (by simp [hk]), (rnum8 num _).mono ?_⟩
    rintro e w17 ⟨a17, c17, rfl, hf17⟩
    have k17 := k8d.same hf17.1
    refine ⟨_, _, _, rfl, S, fun _ h => h, sub1 k17, (rfoot_spec ya (refsP num 16 xs).length yc (refsP num 16 xs) w17 (rdRefs k17 (i := 2) rfl) (by omega)).mono ?_⟩
    rintro e w18 ⟨a18, n18, c18, rfl, hf18⟩
    have k18 := k17.same hf18.1
    have hn18 : n18 = 48 * (refsP num 16 xs).length := by rw [← hf18.2.1, footL_len]
    refine ⟨_, _, _, rfl, S, fun _ h => h, sub1 k18, (rseal_spec K 3 a17 8 c17 (numL (n64 num)) a18 n18 c18 (footL (refsP num 16 xs)) w18 hk (hf17.rdB.keep0 hf18.1) hf18.rdB (by omega)).mono ?_⟩
    rintro e w19 ⟨a19, n19, c19, rfl, hf19⟩
    have k19 := k18.same hf19.1
    have hfl := sealF_len K 3 (numL (n64 num)) (footL (refsP num 16 xs)) (by rw [footL_len]; omega)
    rw [footL_len] at hfl
    have hn19 : n19 = 48 * (refsP num 16 xs).length + 45 := by rw [← hf19.2.1, hfl]
    refine ⟨_, _, _, rfl, S, fun _ h => h, sub1 k19, (rframe_spec 3 a19 n19 c19 (sealF K 3 (numL (n64 num)) (footL (refsP num 16 xs))) w19 hf19.rdB (by omega)).mono ?_⟩
    rintro e w20 ⟨a20, n20, c20, rfl, hf20⟩
    have hf20 : FreshB w19 w20 a20 n20 c20 (footP K num (refsP num 16 xs)) := hf20
    obtain ⟨F, hF⟩ : ∃ F, footP K num (refsP num 16 xs) = F := ⟨_, rfl⟩
    rw [hF] at hf20
    have hfn : F.length = n20 := hf20.2.1
    subst hfn
    have k20 := hf20.add k19
    obtain ⟨g21, w21, vh, vi, w22, r21, r22, k22, k21, _⟩ := k20.pushV (i := 1) (ty := 23) bbT rfl (.slice a20 F.length c20) rfl (by omega) (by simp only [maxLen]; omega)
    have k22 : St w [] w22 (.arr g3 28 (bv K) :: ([.row 33 1 (.slice vh (ps.length + 1) vi) (ps.length + 1) (ps.map PcD.v ++ [.slice a20 F.length c20]), .row 75 35 (.slice ya (refsP num 16 xs).length yc) (refsP num 16 xs).length ((refsP num 16 xs).flatMap refC)] ++ (ps.map PcD.row ++ [.row 5 1 (.slice a20 F.length c20) F.length (bv F)]))) := by simpa using k22
    refine ⟨_, _, _, rfl, S, fun _ h => h, sub1 (L := _) k20, _, _, _, w21, r21, S, fun _ h => h, sub1 (L := _) k21, _, _, _, w22, r22, S, fun _ h => h, sub1 k22, ps ++ [⟨a20, c20, F⟩], vh, vi, ya, yc, by simp, by rw [List.map_append, hps, ← hF]; simp [piecesP], ?_⟩
    simpa [PcD.v, PcD.row] using k22.tail

theorem rbuild_spec13 (K : List UInt8) (hk : K.length = 96) (num : Int) (a : Option Addr) (n c : Nat) (l : List ItD) (w : World) (hr : ItR w a n c l) (hs : SmallI (l.map ItD.t)) :
    Calls Tryz.prog 12 #[.agg (bv K).toArray, .int .i64 num, .slice a n c] w fun e w' => ∃ ba bn bc ra rn rc, e = .returned (.tuple #[.slice ba bn bc, .slice ra rn rc, .int .i64 (if goodP num then 0 else 28)]) ∧ Chg [] w w' ∧
      RdB w' ba bn bc (if goodP num then buildP K num (l.map ItD.t) else []) ∧ RdR w' ra rn rc (if goodP num then refsP num 16 (l.map ItD.t) else []) := by
  have hln := hr.rd.num (by decide)
  have hnum := hs.num
  rw [List.length_map] at hnum
  apply amphoraref13_Build_vc
  obtain ⟨g3, w1, r1, k1⟩ := (St.start w).boxA (P := Tryz.prog) 28 (bv K)
  have k1 : St w [] w1 [.arr g3 28 (bv K)] := k1
  refine ⟨g3, w1, r1, (rgood13_spec num w1).mono ?_⟩
  rintro e w2 ⟨rfl, rfl⟩
  cases hg : goodP num with
  | false => exact ⟨_, rfl, fun _ => ⟨none, 0, 0, none, 0, 0, rfl, k1.chg, rdNil _, RdE.nil _⟩, fun h => by cases h⟩
  | true =>
    refine ⟨_, rfl, fun h => (by cases h), fun _ => ⟨fun x w' => ∃ i : Nat, x = (i : Int) ∧ i ≤ n ∧ w' = w2, fun x _ => n - x.toNat, ⟨0, rfl, by omega, rfl⟩, ?_⟩⟩
    rintro x w3 ⟨i, rfl, hi, rfl⟩
    refine ⟨fun h => ?_, fun h => ?_⟩
    · have hi' : i < n := by simp at h; omega
      have hx : l[i]? = some l[i] := List.getElem?_eq_getElem (by omega)
      obtain ⟨b2, o2, hab2, q2⟩ := hr.rd.fld (P := Tryz.prog) (by decide) bsA' (j := 32) hx (itC_blob l[i])
      have hb : l[i].n ≤ 16777216 := by
        have h1 := (hr.blobs l[i] (List.getElem_mem _)).lenB
        have h2 : l[i].blob.length ≤ 16777216 := hs.blob (List.mem_map_of_mem (List.getElem_mem _))
        omega
      refine ⟨b2, o2, hab2, by omega, by omega, _, _, _, q2 w3 (hr.rd.keep0 k1.chg), fun h => ?_, fun _ => ⟨⟨i + 1, wrap_succ hi' (by omega), by omega, rfl⟩, mu_succ hi' (by omega)⟩⟩
      simp at h; omega
    refine ⟨_, k1.ldA (i := 0) (l := bv K) rfl (kyA' _) (kyS' _) (by simp [hk]), (rpieces_spec K hk num a n c l w3 hg (hr.keep0 k1.chg) hs).mono ?_⟩
    rintro e w4 ⟨ps, la, lc, ra, rc, rfl, hps, k4⟩
    have hfl : (ps.map PcD.l).flatten = buildP K num (l.map ItD.t) := by rw [hps]; rfl
    have hbl := build_len K num hs
    have hpl : ps.length = l.length + 2 := by have := congrArg List.length hps; rw [List.length_map, pieces_len, List.length_map] at this; exact this
    obtain ⟨g5, w5, r5, k5⟩ := (St.start w4).lit bT [] (by simp) (by simp)
    have hrow : Rd w4 la ps.length lc 1 (ps.map PcD.v) := k4.rd (i := 0) rfl
    have h2 : Row2 w4 (ps.map PcD.v) (ps.map PcD.l) := rowsR2 (L := []) (by rw [List.append_nil]; exact k4.sub (List.sublist_append_right _ _))
    obtain ⟨ls, hls⟩ : ∃ ls, ps.map PcD.l = ls := ⟨_, rfl⟩
    have hll : ls.length = ps.length := by rw [← hls]; simp
    rw [hls] at h2 hfl
    refine ⟨_, _, _, _, _, _, rfl, _, _, _, w5, r5, fun xa xn xc x w' => ∃ i : Nat, x = (i : Int) ∧ i ≤ ps.length ∧ xn = (ls.take i).flatten.length ∧ St w4 [] w' [.row 5 1 (.slice xa xn xc) xn (bv (ls.take i).flatten)], fun _ _ _ x _ => ps.length - x.toNat, ⟨0, rfl, by omega, by simp, by simpa using k5⟩, ?_⟩
    rintro xa xn xc x w6 ⟨i, rfl, hi, rfl, hS⟩
    have hft := flat_take_le ls i
    refine ⟨fun h => ?_, fun h => ?_⟩
    · have hi' : i < ps.length := by simp at h; omega
      obtain ⟨b, o, a', n', c', ha, hv, hrd, hld⟩ := ixS hrow.cells h2 (i := i) (by omega)
      have hl' := hrd.lenB
      have hf1 := flat_take (ls := ls) (i := i) (by omega)
      have hf2 := flat_take_le ls (i + 1)
      rw [hf1, List.length_append, hl'] at hf2
      rw [hfl] at hf2
      obtain ⟨va, vc, w7, r7, h7⟩ := hS.appendB (i := 0) rfl (hS.rd1 hrd) (by omega)
      refine ⟨b, o, ha, by omega, by omega, _, _, _, hld w6 (hrow.cells.keep0 hS.chg), _, _, _, _, r7, ⟨i + 1, wrap_succ hi' (by omega), by omega, ?_, ?_⟩, mu_succ hi' (by omega)⟩
      · rw [hf1, List.length_append, hl']
      · rw [hf1]; exact h7
    · have hi' : i = ps.length := by simp at h; omega
      subst hi'
      rw [← hll, List.take_length, hfl] at hS
      rw [← hll, List.take_length, hfl]
      exact ⟨_, _, _, _, _, _, rfl, (k1.chg.trans k4.chg).trans hS.chg, hS.rd (i := 0) rfl, (rdRefs k4 (i := 1) rfl).keep0 hS.chg⟩

end

end Go.Proofs.YtmdandkoajocpaaGreatDoor
