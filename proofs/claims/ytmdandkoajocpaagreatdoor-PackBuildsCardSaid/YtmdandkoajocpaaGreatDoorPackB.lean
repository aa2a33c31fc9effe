/- Contracts of pack: an item, the foot, the whole file in pieces (conditions: those that each theorem names). -/
import Derived.Test.YtmdandkoajocpaaGreatDoorPackA
namespace Go.Proofs.YtmdandkoajocpaaGreatDoor
open Go Sx
set_option maxRecDepth 8000

theorem itA (w : World) : (isAgg 46).run Tryz.prog w = .ok true w := Tryz.isAgg46 w
theorem itS (w : World) : (sizeOf 46).run Tryz.prog w = .ok 33 w := Tryz.sizeOf46 w
def it0 : ItD := ⟨List.replicate 32 0, none, 0, 0, [], by simp⟩
theorem itZ (w : World) : (zeroValue 46).run Tryz.prog w = .ok (.agg (itC it0).toArray) w := Tryz.zeroValue46 w
theorem itC_blob (x : ItD) : (itC x)[32]? = some (.slice x.a x.n x.c) := by
  rw [itC, List.getElem?_append_right (by simp [x.idl])]; simp [x.idl]

theorem ref_parts (id : List UInt8) (p q n : Int) (w : World) (hl : id.length = 32) : (Instr.build 75 #[(0, .agg (bv id).toArray), (1, .int .i64 p), (2, .int .i64 q), (3, .int .i64 n)]).run Tryz.prog w = .ok (.agg (bv id ++ [Value.int .i64 p, Value.int .i64 q, Value.int .i64 n]).toArray) w := by
  apply run_build
  rw [built_ref]
  show Instr.fill _ _ [(0, _), (1, _), (2, _), (3, _)] = _
  have hz : (refC ref0).toArray = (bv (List.replicate 32 0) ++ [Value.int .i64 0, Value.int .i64 0, Value.int .i64 0]).toArray := rfl
  rw [hz, fill_step (off := 0) (sz := 32) rfl (by simp [Value.cells, hl]) (by simp), fill_step (off := 32) (sz := 1) rfl rfl (by simp [Value.cells, hl]), fill_step (off := 33) (sz := 1) rfl rfl (by simp [Value.cells, hl]), fill_step (off := 34) (sz := 1) rfl rfl (by simp [Value.cells, hl])]
  have hbl : (bv id).length = 32 := by simp [hl]
  simp [Instr.fill, Value.cells, List.take_append, List.drop_append, hbl, List.take_of_length_le, List.drop_of_length_le, hl]

section
variable {w0 w w' : World} {X : List Nat} {M N N' T : List Res} {g : Nat} {num : Int} {ps : List (List UInt8)} {rs : List RefD}

/-- The identifier of an item that is held, as a row of bytes. -/
theorem Sx.St.itRow (h : St w0 X w M) {i g : Nat} {T : TypeId} {x : ItD} (hi : M[i]? = some (.arr g T (itC x))) : RdB w (some ⟨g, 0, none⟩) 32 32 x.id := by
  have rng := h.cellsA hi
  refine ⟨.inr ⟨g, 0, rfl, fun j v hj => rng j v ?_⟩, by simp [x.idl], Nat.le_refl _, by simp⟩
  rw [itC, List.getElem?_append_left (List.getElem?_eq_some_iff.1 hj).1]; exact hj

theorem frmT_len (x : Itm) (h : x.1.length = 32) (hb : x.2.length ≤ 67108832) : 33 + x.2.length ≤ (frmT x).length ∧ (frmT x).length ≤ 42 + x.2.length := by
  have := varL_len 9 (x.1 ++ x.2).length (by rw [List.length_append, h]; omega) (by decide)
  have := varL_pos (x.1 ++ x.2).length
  simp only [frmT, frameL, List.length_cons, List.length_append, h] at *
  omega

set_option maxHeartbeats 1000000 in
theorem pkitem_spec (x : ItD) (h : FileIn w0 X w g num ps rs N) (hr : RdB w x.a x.n x.c x.blob) (hb : x.n ≤ 67108832) (hp : ps.length < 1000000) (hrs : rs.length < 1000000) (hs : ps.flatten.length ≤ 1099511627776) (hnum : OkI num) :
    Calls Tryz.prog 71 #[.pointer (some ⟨g, 0, none⟩), .agg (itC x).toArray] w fun e w' => e = .returned (.tuple #[]) ∧
      FileIn w0 X w' g num (ps ++ [frmT x.t]) (rs ++ [mkRef x.id num (((ps.flatten.length + (frmT x.t).length : Nat) : Int) - ((x.blob.length : Nat) : Int)) ((x.blob.length : Nat) : Int)]) N := by
  have hl := hr.lenB
  have hid := x.idl
  obtain ⟨fl1, fl2⟩ := frmT_len x.t hid (by show x.blob.length ≤ _; omega)
  have ht2 : x.t.2.length = x.n := hl
  obtain ⟨F, hF⟩ : ∃ F, frmT x.t = F := ⟨_, rfl⟩
  rw [hF] at fl1 fl2 ⊢
  apply pack_file_item_vc
  obtain ⟨g3, w1, r1, k1⟩ := (St.start w).boxA (P := Tryz.prog) 46 (itC x)
  have h1 := (h.addSt k1).same (Chg.drew [] w1)
  have pk : ∀ {w' ps' rs' T}, FileIn w0 X w' g num ps' rs' ((N ++ ([] ++ [.arr g3 46 (itC x)])) ++ T) → St w0 X w' [.arr g3 46 (itC x)] := fun h => h.rest.sub ((List.sublist_append_right N _).trans (List.sublist_append_left _ _))
  have pk0 : ∀ {w' ps' rs'}, FileIn w0 X w' g num ps' rs' (N ++ ([] ++ [.arr g3 46 (itC x)])) → St w0 X w' [.arr g3 46 (itC x)] := fun h => h.rest.sub (List.sublist_append_right N _)
  have ldB : ∀ {w'}, St w0 X w' [.arr g3 46 (itC x)] → (Instr.loadAt 33 (.pointer (some ⟨g3, 32, none⟩))).run Tryz.prog w' = .ok (.slice x.a x.n x.c) w' := fun h => h.ldL (i := 0) (o := 32) rfl (bsA' _) rfl (itC_blob x)
  obtain ⟨g2, w2, r2, k2⟩ := (St.start w1.drew).lit bbT [.slice (some ⟨g3, 0, none⟩) 32 32, .slice x.a x.n x.c] (by simp [Value.oneCell']) (by simp)
  have h2 := h1.same k2.chg
  let S : World → Prop := fun w' => St w0 X w' [.arr g3 46 (itC x)]
  have c02 : Chg [] w w2 := (k1.chg.trans (Chg.drew [] w1)).trans k2.chg
  refine ⟨g3, w1, r1, S, pk0 h1, by omega, by omega, _, _, _, fun w' hw => ldB hw, _, _, _, w2, r2, S, fun _ h => h, pk0 h2, (frame_spec 2 _ 2 2 _ [x.id, x.blob] w2 (k2.rd (i := 0) rfl) (Row2.cons ((pk0 h2).itRow (i := 0) rfl) (Row2.cons (hr.keep0 c02) (Row2.nil _))) (by simp; omega) (by simp)).mono ?_⟩
  rintro e w3 ⟨fa, fn, fc, rfl, hf⟩
  have eF : frameL 2 [x.id, x.blob].flatten = F := by rw [← hF]; simp [frmT, ItD.t]
  rw [eF] at hf
  have hfn : F.length = fn := hf.2.1
  subst hfn
  have h3 : FileIn w0 X w3 g num ps rs ((N ++ ([] ++ [.arr g3 46 (itC x)])) ++ [.row 5 1 (.slice fa F.length fc) F.length (bv F)]) := h2.addSt (hf.add (St.start w2))
  have h3D := h3.same (Chg.drew [] w3)
  obtain ⟨f3, e31, e32, q3⟩ := h3D
  let S3 : World → Prop := fun w' => St w0 X w' (fileR g num f3 ++ (f3.ps.map PcD.row ++ ((N ++ ([] ++ [.arr g3 46 (itC x)])) ++ [.row 5 1 (.slice fa F.length fc) F.length (bv F)])))
  have pk3 : ∀ w', S3 w' → St w0 X w' [.arr g3 46 (itC x)] := fun w' h => pk ⟨f3, rfl, rfl, h⟩
  refine ⟨_, _, _, rfl, S, fun _ h => h, pk h3, S3, q3, _, fun w' hw => Sx.St.ldL hw (i := 0) (o := 1) rfl (inA _) rfl rfl, _, _, _, fun w' hw => ldB (pk3 w' hw), (pkput_spec (h3.same (Chg.drew [] w3)) hp (by omega)).mono ?_⟩
  rintro e w4 ⟨rfl, h4⟩
  have h4D := h4.same (Chg.drew [] w4)
  obtain ⟨f4, e41, e42, q4⟩ := h4D
  let S4 : World → Prop := fun w' => St w0 X w' [.arr g 105 (fileL num f4), .arr g3 46 (itC x)]
  have s4 : ∀ {w' r1 r2}, St w0 X w' (.arr g 105 (fileL num f4) :: r1 :: r2 :: (f4.ps.map PcD.row ++ (N ++ ([] ++ [.arr g3 46 (itC x)])))) → S4 w' := fun h => h.sub (List.Sublist.cons_cons _ (((List.sublist_append_right N _).trans (List.sublist_append_right _ _)).trans ((List.sublist_cons_self _ _).trans (List.sublist_cons_self _ _))))
  have pk4 : ∀ w', S4 w' → St w0 X w' [.arr g3 46 (itC x)] := fun w' h => Sx.St.tail h
  have ldI : ∀ w', S4 w' → (Instr.loadAt 44 (.pointer (some ⟨g3, 0, none⟩))).run Tryz.prog w' = .ok (.agg (bv x.id).toArray) w' := fun w' hw => by
    have := (pk4 w' hw).ldPre (i := 0) (T := 44) (n := 32) rfl (idA' w') (idS' w') (by simp)
    rw [itC, List.take_left' (by simp [hid])] at this
    exact this
  have eAt : IntKind.wrap .i64 ((IntKind.wrap .i64 ((((f3.ps.map PcD.l).flatten.length : Nat) : Int) + ((F.length : Nat) : Int))) - ((x.n : Nat) : Int)) = (((ps.flatten.length + F.length : Nat) : Int) - ((x.blob.length : Nat) : Int)) := by
    have ei : IntKind.wrap .i64 (((ps.flatten.length : Nat) : Int) + ((F.length : Nat) : Int)) = ((ps.flatten.length : Nat) : Int) + ((F.length : Nat) : Int) := wrap_i64 (by omega) (by omega)
    rw [e31, ei, wrap_i64 (by omega) (by omega)]; omega
  have hrs4 : f4.rs.length < 1000000 := by rw [e42]; exact hrs
  have okA : OkI (((ps.flatten.length + F.length : Nat) : Int) - ((x.blob.length : Nat) : Int)) := ⟨by omega, by omega⟩
  have okN : OkI ((x.blob.length : Nat) : Int) := ⟨by omega, by omega⟩
  have eC := refC_mk hid hnum okA okN
  obtain ⟨r, hrr⟩ : ∃ r, mkRef x.id num (((ps.flatten.length + F.length : Nat) : Int) - ((x.blob.length : Nat) : Int)) ((x.blob.length : Nat) : Int) = r := ⟨_, rfl⟩
  rw [hrr] at eC ⊢
  obtain ⟨g5, w5, va, vc, w6, r5, r6, h6, h5⟩ := q4.pushA (i := 2) (ty := 34) rfT rfl (refC r) (refC_len r) (by decide) (refC_one r) (by omega) (by simp only [maxLen]; omega)
  obtain ⟨w7, r7, h7⟩ := h6.stL (i := 0) (o := 3) (off := 3) (T := 34) (v := .slice va (f4.rs.length + 1) vc) rfl (rsS' _) rfl (by simp [fileL]) rfl
  have h6 : St w0 X w6 (.arr g 105 (fileL num f4) :: .row 33 1 (.slice f4.la f4.ps.length f4.lc) f4.ps.length (f4.ps.map PcD.v) :: .row 75 35 (.slice va (f4.rs.length + 1) vc) (f4.rs.length + 1) (f4.rs.flatMap refC ++ refC r) :: (f4.ps.map PcD.row ++ (N ++ ([] ++ [.arr g3 46 (itC x)])))) := h6
  refine ⟨rfl, S4, s4 q4, _, _, _, fun w' hw => Sx.St.ldL hw (i := 0) (o := 3) rfl (rsA' _) rfl rfl, _, ldI, _, fun w' hw => Sx.St.ldL hw (i := 0) (o := 2) rfl (inA _) rfl rfl, _, _, _, fun w' hw => ldB (pk4 w' hw), _, fun w' hw => by rw [eAt, ← hl]; exact ref_parts x.id num _ _ w' hid, _, _, _, w5, by rw [← eC]; exact r5, S4, fun _ h => h, s4 h5, _, _, _, w6, r6, S4, fun _ h => h, s4 h6, w7, r7, rfl, { f4 with ra := va, rc := vc, rs := f4.rs ++ [r] }, e41, by rw [← e42], ?_⟩
  have h8 : St w0 X w7 ([.arr g 105 [.slice f4.la f4.ps.length f4.lc, .int .i64 (((f4.ps.map PcD.l).flatten.length : Nat) : Int), .int .i64 num, .slice va (f4.rs.length + 1) vc], .row 33 1 (.slice f4.la f4.ps.length f4.lc) f4.ps.length (f4.ps.map PcD.v), .row 75 35 (.slice va (f4.rs.length + 1) vc) (f4.rs.length + 1) (f4.rs.flatMap refC ++ refC r)] ++ (f4.ps.map PcD.row ++ (N ++ ([] ++ [.arr g3 46 (itC x)])))) := h7
  have e2 : fileR g num { f4 with ra := va, rc := vc, rs := f4.rs ++ [r] } = [.arr g 105 [.slice f4.la f4.ps.length f4.lc, .int .i64 (((f4.ps.map PcD.l).flatten.length : Nat) : Int), .int .i64 num, .slice va (f4.rs.length + 1) vc], .row 33 1 (.slice f4.la f4.ps.length f4.lc) f4.ps.length (f4.ps.map PcD.v), .row 75 35 (.slice va (f4.rs.length + 1) vc) (f4.rs.length + 1) (f4.rs.flatMap refC ++ refC r)] := by
    simp [fileR, fileL]
  rw [e2]
  exact h8.sub (List.Sublist.append_left (List.Sublist.append_left (List.sublist_append_left _ _) _) _)

theorem footPlain_spec (a : Option Addr) (n c : Nat) (l : List RefD) (w : World) (hr : RdR w a n c l) (hb : n ≤ 1000000) :
    Calls Tryz.prog 60 #[.slice a n c] w fun e w' => ∃ a' n' c', e = .returned (.slice a' n' c') ∧ FreshB w w' a' n' c' (footL l) := by
  have hln := hr.num (by decide)
  apply pack_footPlain_vc
  have h1 : St w [] w [.row 5 1 (.slice none 0 0) 0 (bv (footL (l.take 0)))] := (St.start w).addNil _ _
  refine ⟨fun xa xn xc x w' => ∃ i : Nat, x = (i : Int) ∧ i ≤ n ∧ St w [] w' [.row 5 1 (.slice xa xn xc) xn (bv (footL (l.take i)))], fun _ _ _ x _ => n - x.toNat, ⟨0, rfl, by omega, h1⟩, ?_⟩
  rintro xa xn xc x w2 ⟨i, rfl, hi, h2⟩
  have hxn : xn = 48 * i := by
    have e1 := (h2.rd (i := 0) rfl).lenB
    rw [footL_len, List.length_take] at e1
    omega
  refine ⟨fun h => ?_, fun h => ?_⟩
  · have hi' : i < n := by simp at h; omega
    have ha : l[i]? = some l[i] := List.getElem?_eq_getElem (by omega)
    obtain ⟨r, hrr⟩ : ∃ r, l[i] = r := ⟨_, rfl⟩
    rw [hrr] at ha
    obtain ⟨b, o, hab, q⟩ := hr.ld (P := Tryz.prog) (by decide) rfA rfS ha
    obtain ⟨g5, w3, r3, h3⟩ := h2.zeroA rfZ
    obtain ⟨w4, r4, h4⟩ := h3.stA (i := 1) (v := refC r) rfl (rfS _) (refC_len _) (refC_len _) (refC_one _)
    have h4 : St w [] w4 [.row 5 1 (.slice xa xn xc) xn (bv (footL (l.take i))), .arr g5 75 (refC r)] := h4
    obtain ⟨va, vc, w5, r5, h5⟩ := h4.appendB (i := 0) rfl (h4.idRow (i := 1) rfl) (by omega)
    have h5 : St w [] w5 [.row 5 1 (.slice va (xn + 32) vc) (xn + 32) (bv (footL (l.take i) ++ r.id)), .arr g5 75 (refC r)] := h5
    obtain ⟨_, fa, fl⟩ := refFld h5 (i := 1) rfl
    refine ⟨b, o, hab, by omega, by omega, _, q w2 (hr.keep0 h2.chg), g5, w3, r3, w4, r4, by omega, by omega, _, _, _, w5, r5, _, fa, (num_bytes' r.at_ w5).mono ?_⟩
    rintro e w6 ⟨a6, c6, rfl, hf6⟩
    have h6 := hf6.add h5
    have h6 : St w [] w6 [.row 5 1 (.slice va (xn + 32) vc) (xn + 32) (bv (footL (l.take i) ++ r.id)), .arr g5 75 (refC r), .row 5 1 (.slice a6 8 c6) 8 (bv (numL (n64 r.at_)))] := h6
    obtain ⟨vd, ve, w7, r7, h7⟩ := h6.appendB (i := 0) rfl (h6.rd (i := 2) rfl) (by omega)
    have h7 : St w [] w7 [.row 5 1 (.slice vd (xn + 32 + 8) ve) (xn + 32 + 8) (bv (footL (l.take i) ++ r.id ++ numL (n64 r.at_))), .arr g5 75 (refC r), .row 5 1 (.slice a6 8 c6) 8 (bv (numL (n64 r.at_)))] := h7
    obtain ⟨_, _, fl⟩ := refFld h7 (i := 1) rfl
    refine ⟨_, _, _, rfl, _, _, _, w7, r7, _, fl, (num_bytes' r.len w7).mono ?_⟩
    rintro e w8 ⟨a8, c8, rfl, hf8⟩
    have h8 := hf8.add h7
    have h8 : St w [] w8 [.row 5 1 (.slice vd (xn + 32 + 8) ve) (xn + 32 + 8) (bv (footL (l.take i) ++ r.id ++ numL (n64 r.at_))), .arr g5 75 (refC r), .row 5 1 (.slice a6 8 c6) 8 (bv (numL (n64 r.at_))), .row 5 1 (.slice a8 8 c8) 8 (bv (numL (n64 r.len)))] := h8
    obtain ⟨vf, vg, w9, r9, h9⟩ := h8.appendB (i := 0) rfl (h8.rd (i := 3) rfl) (by omega)
    refine ⟨_, _, _, rfl, _, _, _, w9, r9, ⟨i + 1, wrap_succ hi' (by omega), by omega, ?_⟩, mu_succ hi' (by omega)⟩
    have e2 : footL (l.take (i + 1)) = footL (l.take i) ++ r.id ++ numL (n64 r.at_) ++ numL (n64 r.len) := by
      rw [List.take_add_one, ha]; simp [footL, refBy, List.append_assoc]
    rw [e2]
    exact h9.sub (List.Sublist.cons_cons _ (List.nil_sublist _))
  · have hi' : i = n := by simp at h; omega
    rw [hi', List.take_of_length_le (by omega)] at h2
    exact ⟨_, _, _, rfl, h2.freshB (i := 0) rfl⟩

end

end Go.Proofs.YtmdandkoajocpaaGreatDoor
