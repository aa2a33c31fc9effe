/- The proof of PackNamesCardSaid, part 5: what it rests on (conditions: those that each theorem names). -/
import Derived.Test.YtmdandkoajocpaaGreatDoorS4
import Derived.Lib.AppendZerosOnto
import Derived.Test.YtmdandkoajocpaaGreatDoorRows
import Derived.Shelf.Strconv.Itoa3
import Derived.Ground.NamesProg
import Derived.Test.YtmdandkoajocpaaGreatDoorProg
import Derived.Maps.RangeRun
import Derived.RangeFuncRecord
import Derived.Lib.ItoaLen
import Derived.Lib.ItoaMem
import Derived.Lib.AtoiAll
import Derived.Shelf.LaysC
import Derived.Shelf.Strconv.ErrVarAll
import Derived.Stop.LaidErr
section
namespace Go.Proofs.YtmdandkoajocpaaGreatDoor
open Go Sx
set_option maxRecDepth 8000

theorem itA (w : World) : (isAgg 46).run Tryz.prog w = .ok true w := Tryz.isAgg46 w
theorem itS (w : World) : (sizeOf 46).run Tryz.prog w = .ok 33 w := Tryz.sizeOf46 w
def it0 : ItD := ⟨List.replicate 32 0, none, 0, 0, [], by simp⟩
theorem itZ (w : World) : (zeroValue 46).run Tryz.prog w = .ok (.agg (itC it0).toArray) w := Tryz.zeroValue46 w
theorem itC_blob (x : ItD) : (itC x)[32]? = some (.slice x.a x.n x.c) := by
  rw [itC, List.getElem?_append_right (by simp [x.idl])]; simp [x.idl]

theorem ref_parts (id : List UInt8) (p q n : Int) (w : World) (hl : id.length = 32) : (Instr.build 75 #[(0, .agg (bv id).toArray), (1, .int .i64 p), (2, .int .i64 q), (3, .int .i64 n)]).run Tryz.prog w = .ok (.agg (bv id ++ [Value.int .i64 p, Value.int .i64 q, Value.int .i64 n]).toArray) w := by
  apply run_build
  rw [built_ref]
  show Instr.fill _ _ [(0, _), (1, _), (2, _), (3, _)] = _
  have hz : (refC ref0).toArray = (bv (List.replicate 32 0) ++ [Value.int .i64 0, Value.int .i64 0, Value.int .i64 0]).toArray := rfl
  rw [hz, fill_step (off := 0) (sz := 32) rfl (by simp [Value.cells, hl]) (by simp), fill_step (off := 32) (sz := 1) rfl rfl (by simp [Value.cells, hl]), fill_step (off := 33) (sz := 1) rfl rfl (by simp [Value.cells, hl]), fill_step (off := 34) (sz := 1) rfl rfl (by simp [Value.cells, hl])]
  have hbl : (bv id).length = 32 := by simp [hl]
  simp [Instr.fill, Value.cells, List.take_append, List.drop_append, hbl, List.take_of_length_le, List.drop_of_length_le, hl]

section
variable {w0 w w' : World} {X : List Nat} {M N N' T : List Res} {g : Nat} {num : Int} {ps : List (List UInt8)} {rs : List RefD}

/-- The identifier of an item that is held, as a row of bytes. -/
theorem Sx.St.itRow (h : St w0 X w M) {i g : Nat} {T : TypeId} {x : ItD} (hi : M[i]? = some (.arr g T (itC x))) : RdB w (some ⟨g, 0, none⟩) 32 32 x.id := by
  have rng := h.cellsA hi
  refine ⟨.inr ⟨g, 0, rfl, fun j v hj => rng j v ?_⟩, by simp [x.idl], Nat.le_refl _, by simp⟩
  rw [itC, List.getElem?_append_left (List.getElem?_eq_some_iff.1 hj).1]; exact hj

theorem frmT_len (x : Itm) (h : x.1.length = 32) (hb : x.2.length ≤ 67108832) : 33 + x.2.length ≤ (frmT x).length ∧ (frmT x).length ≤ 42 + x.2.length := by
  have := varL_len 9 (x.1 ++ x.2).length (by rw [List.length_append, h]; omega) (by decide)
  have := varL_pos (x.1 ++ x.2).length
  simp only [frmT, frameL, List.length_cons, List.length_append, h] at *
  omega

set_option maxHeartbeats 1000000 in
theorem pkitem_spec (x : ItD) (h : FileIn w0 X w g num ps rs N) (hr : RdB w x.a x.n x.c x.blob) (hb : x.n ≤ 67108832) (hp : ps.length < 1000000) (hrs : rs.length < 1000000) (hs : ps.flatten.length ≤ 1099511627776) (hnum : OkI num) :
    Calls Tryz.prog 71 #[.pointer (some ⟨g, 0, none⟩), .agg (itC x).toArray] w fun e w' => e = .returned (.tuple #[]) ∧
      FileIn w0 X w' g num (ps ++ [frmT x.t]) (rs ++ [mkRef x.id num (((ps.flatten.length + (frmT x.t).length : Nat) : Int) - ((x.blob.length : Nat) : Int)) ((x.blob.length : Nat) : Int)]) N := by
  have hl := hr.lenB
  have hid := x.idl
  obtain ⟨fl1, fl2⟩ := frmT_len x.t hid (by show x.blob.length ≤ _; omega)
  have ht2 : x.t.2.length = x.n := hl
  obtain ⟨F, hF⟩ : ∃ F, frmT x.t = F := ⟨_, rfl⟩
  rw [hF] at fl1 fl2 ⊢
  apply pack_file_item_vc
  obtain ⟨g3, w1, r1, k1⟩ := (St.start w).boxA (P := Tryz.prog) 46 (itC x)
  have h1 := (h.addSt k1).same (Chg.drew [] w1)
  have pk : ∀ {w' ps' rs' T}, FileIn w0 X w' g num ps' rs' ((N ++ ([] ++ [.arr g3 46 (itC x)])) ++ T) → St w0 X w' [.arr g3 46 (itC x)] := fun h => h.rest.sub ((List.sublist_append_right N _).trans (List.sublist_append_left _ _))
  have pk0 : ∀ {w' ps' rs'}, FileIn w0 X w' g num ps' rs' (N ++ ([] ++ [.arr g3 46 (itC x)])) → St w0 X w' [.arr g3 46 (itC x)] := fun h => h.rest.sub (List.sublist_append_right N _)
  have ldB : ∀ {w'}, St w0 X w' [.arr g3 46 (itC x)] → (Instr.loadAt 33 (.pointer (some ⟨g3, 32, none⟩))).run Tryz.prog w' = .ok (.slice x.a x.n x.c) w' := fun h => h.ldL (i := 0) (o := 32) rfl (bsA' _) rfl (itC_blob x)
  obtain ⟨g2, w2, r2, k2⟩ := (St.start w1.drew).lit bbT [.slice (some ⟨g3, 0, none⟩) 32 32, .slice x.a x.n x.c] (by simp [Value.oneCell']) (by simp)
  have h2 := h1.same k2.chg
  let S : World → Prop := fun w' => St w0 X w' [.arr g3 46 (itC x)]
  have c02 : Chg [] w w2 := (k1.chg.trans (Chg.drew [] w1)).trans k2.chg
  refine ⟨g3, w1, r1, S, pk0 h1, by omega, by omega, _, _, _, fun w' hw => ldB hw, _, _, _, w2, r2, S, fun _ h => h, pk0 h2, (frame_spec 2 _ 2 2 _ [x.id, x.blob] w2 (k2.rd (i := 0) rfl) (Row2.cons ((pk0 h2).itRow (i := 0) rfl) (Row2.cons (hr.keep0 c02) (Row2.nil _))) (by simp; omega) (by simp)).mono ?_⟩
  rintro e w3 ⟨fa, fn, fc, rfl, hf⟩
  have eF : frameL 2 [x.id, x.blob].flatten = F := by rw [← hF]; simp [frmT, ItD.t]
  rw [eF] at hf
  have hfn : F.length = fn := hf.2.1
  subst hfn
  have h3 : FileIn w0 X w3 g num ps rs ((N ++ ([] ++ [.arr g3 46 (itC x)])) ++ [.row 5 1 (.slice fa F.length fc) F.length (bv F)]) := h2.addSt (hf.add (St.start w2))
  have h3D := h3.same (Chg.drew [] w3)
  obtain ⟨f3, e31, e32, q3⟩ := h3D
  let S3 : World → Prop := fun w' => St w0 X w' (fileR g num f3 ++ (f3.ps.map PcD.row ++ ((N ++ ([] ++ [.arr g3 46 (itC x)])) ++ [.row 5 1 (.slice fa F.length fc) F.length (bv F)])))
  have pk3 : ∀ w', S3 w' → St w0 X w' [.arr g3 46 (itC x)] := fun w' h => pk ⟨f3, rfl, rfl, h⟩
  refine ⟨_, _, _, rfl, S, fun _ h => h, pk h3, S3, q3, _, fun w' hw => Sx.St.ldL hw (i := 0) (o := 1) rfl (inA _) rfl rfl, _, _, _, fun w' hw => ldB (pk3 w' hw), (pkput_spec (h3.same (Chg.drew [] w3)) hp (by omega)).mono ?_⟩
  rintro e w4 ⟨rfl, h4⟩
  have h4D := h4.same (Chg.drew [] w4)
  obtain ⟨f4, e41, e42, q4⟩ := h4D
  let S4 : World → Prop := fun w' => St w0 X w' [.arr g 105 (fileL num f4), .arr g3 46 (itC x)]
  have s4 : ∀ {w' r1 r2}, St w0 X w' (.arr g 105 (fileL num f4) :: r1 :: r2 :: (f4.ps.map PcD.row ++ (N ++ ([] ++ [.arr g3 46 (itC x)])))) → S4 w' := fun h => h.sub (List.Sublist.cons_cons _ (((List.sublist_append_right N _).trans (List.sublist_append_right _ _)).trans ((List.sublist_cons_self _ _).trans (List.sublist_cons_self _ _))))
  have pk4 : ∀ w', S4 w' → St w0 X w' [.arr g3 46 (itC x)] := fun w' h => Sx.St.tail h
  have ldI : ∀ w', S4 w' → (Instr.loadAt 44 (.pointer (some ⟨g3, 0, none⟩))).run Tryz.prog w' = .ok (.agg (bv x.id).toArray) w' := fun w' hw => by
    have := (pk4 w' hw).ldPre (i := 0) (T := 44) (n := 32) rfl (idA' w') (idS' w') (by simp)
    rw [itC, List.take_left' (by simp [hid])] at this
    exact this
  have eAt : IntKind.wrap .i64 ((IntKind.wrap .i64 ((((f3.ps.map PcD.l).flatten.length : Nat) : Int) + ((F.length : Nat) : Int))) - ((x.n : Nat) : Int)) = (((ps.flatten.length + F.length : Nat) : Int) - ((x.blob.length : Nat) : Int)) := by
    have ei : IntKind.wrap .i64 (((ps.flatten.length : Nat) : Int) + ((F.length : Nat) : Int)) = ((ps.flatten.length : Nat) : Int) + ((F.length : Nat) : Int) := wrap_i64 (by omega) (by omega)
    rw [e31, ei, wrap_i64 (by omega) (by omega)]; omega
  have hrs4 : f4.rs.length < 1000000 := by rw [e42]; exact hrs
  have okA : OkI (((ps.flatten.length + F.length : Nat) : Int) - ((x.blob.length : Nat) : Int)) := ⟨by omega, by omega⟩
  have okN : OkI ((x.blob.length : Nat) : Int) := ⟨by omega, by omega⟩
  have eC := refC_mk hid hnum okA okN
  obtain ⟨r, hrr⟩ : ∃ r, mkRef x.id num (((ps.flatten.length + F.length : Nat) : Int) - ((x.blob.length : Nat) : Int)) ((x.blob.length : Nat) : Int) = r := ⟨_, rfl⟩
  rw [hrr] at eC ⊢
  obtain ⟨g5, w5, va, vc, w6, r5, r6, h6, h5⟩ := q4.pushA (i := 2) (ty := 34) rfT rfl (refC r) (refC_len r) (by decide) (refC_one r) (by omega) (by simp only [maxLen]; omega)
  obtain ⟨w7, r7, h7⟩ := h6.stL (i := 0) (o := 3) (off := 3) (T := 34) (v := .slice va (f4.rs.length + 1) vc) rfl (rsS' _) rfl (by simp [fileL]) rfl
  have h6 : St w0 X w6 (.arr g 105 (fileL num f4) :: .row 33 1 (.slice f4.la f4.ps.length f4.lc) f4.ps.length (f4.ps.map PcD.v) :: .row 75 35 (.slice va (f4.rs.length + 1) vc) (f4.rs.length + 1) (f4.rs.flatMap refC ++ refC r) :: (f4.ps.map PcD.row ++ (N ++ ([] ++ [.arr g3 46 (itC x)])))) := h6
  refine ⟨rfl, S4, s4 q4, _, _, _, fun w' hw => Sx.St.ldL hw (i := 0) (o := 3) rfl (rsA' _) rfl rfl, _, ldI, _, fun w' hw => Sx.St.ldL hw (i := 0) (o := 2) rfl (inA _) rfl rfl, _, _, _, fun w' hw => ldB (pk4 w' hw), _, fun w' hw => by rw [eAt, ← hl]; exact ref_parts x.id num _ _ w' hid, _, _, _, w5, by rw [← eC]; exact r5, S4, fun _ h => h, s4 h5, _, _, _, w6, r6, S4, fun _ h => h, s4 h6, w7, r7, rfl, { f4 with ra := va, rc := vc, rs := f4.rs ++ [r] }, e41, by rw [← e42], ?_⟩
  have h8 : St w0 X w7 ([.arr g 105 [.slice f4.la f4.ps.length f4.lc, .int .i64 (((f4.ps.map PcD.l).flatten.length : Nat) : Int), .int .i64 num, .slice va (f4.rs.length + 1) vc], .row 33 1 (.slice f4.la f4.ps.length f4.lc) f4.ps.length (f4.ps.map PcD.v), .row 75 35 (.slice va (f4.rs.length + 1) vc) (f4.rs.length + 1) (f4.rs.flatMap refC ++ refC r)] ++ (f4.ps.map PcD.row ++ (N ++ ([] ++ [.arr g3 46 (itC x)])))) := h7
  have e2 : fileR g num { f4 with ra := va, rc := vc, rs := f4.rs ++ [r] } = [.arr g 105 [.slice f4.la f4.ps.length f4.lc, .int .i64 (((f4.ps.map PcD.l).flatten.length : Nat) : Int), .int .i64 num, .slice va (f4.rs.length + 1) vc], .row 33 1 (.slice f4.la f4.ps.length f4.lc) f4.ps.length (f4.ps.map PcD.v), .row 75 35 (.slice va (f4.rs.length + 1) vc) (f4.rs.length + 1) (f4.rs.flatMap refC ++ refC r)] := by
    simp [fileR, fileL]
  rw [e2]
  exact h8.sub (List.Sublist.append_left (List.Sublist.append_left (List.sublist_append_left _ _) _) _)

theorem footPlain_spec (a : Option Addr) (n c : Nat) (l : List RefD) (w : World) (hr : RdR w a n c l) (hb : n ≤ 1000000) :
    Calls Tryz.prog 60 #[.slice a n c] w fun e w' => ∃ a' n' c', e = .returned (.slice a' n' c') ∧ FreshB w w' a' n' c' (footL l) := by
  have hln := hr.num (by decide)
  apply pack_footPlain_vc
  have h1 : St w [] w [.row 5 1 (.slice none 0 0) 0 (bv (footL (l.take 0)))] := (St.start w).addNil _ _
  refine ⟨fun xa xn xc x w' => ∃ i : Nat, x = (i : Int) ∧ i ≤ n ∧ St w [] w' [.row 5 1 (.slice xa xn xc) xn (bv (footL (l.take i)))], fun _ _ _ x _ => n - x.toNat, ⟨0, rfl, by omega, h1⟩, ?_⟩
  rintro xa xn xc x w2 ⟨i, rfl, hi, h2⟩
  have hxn : xn = 48 * i := by
    have e1 := (h2.rd (i := 0) rfl).lenB
    rw [footL_len, List.length_take] at e1
    omega
  refine ⟨fun h => ?_, fun h => ?_⟩
  · have hi' : i < n := by simp at h; omega
    have ha : l[i]? = some l[i] := List.getElem?_eq_getElem (by omega)
    obtain ⟨r, hrr⟩ : ∃ r, l[i] = r := ⟨_, rfl⟩
    rw [hrr] at ha
    obtain ⟨b, o, hab, q⟩ := hr.ld (P := Tryz.prog) (by decide) rfA rfS ha
    obtain ⟨g5, w3, r3, h3⟩ := h2.zeroA rfZ
    obtain ⟨w4, r4, h4⟩ := h3.stA (i := 1) (v := refC r) rfl (rfS _) (refC_len _) (refC_len _) (refC_one _)
    have h4 : St w [] w4 [.row 5 1 (.slice xa xn xc) xn (bv (footL (l.take i))), .arr g5 75 (refC r)] := h4
    obtain ⟨va, vc, w5, r5, h5⟩ := h4.appendB (i := 0) rfl (h4.idRow (i := 1) rfl) (by omega)
    have h5 : St w [] w5 [.row 5 1 (.slice va (xn + 32) vc) (xn + 32) (bv (footL (l.take i) ++ r.id)), .arr g5 75 (refC r)] := h5
    obtain ⟨_, fa, fl⟩ := refFld h5 (i := 1) rfl
    refine ⟨b, o, hab, by omega, by omega, _, q w2 (hr.keep0 h2.chg), g5, w3, r3, w4, r4, by omega, by omega, _, _, _, w5, r5, _, fa, (num_bytes' r.at_ w5).mono ?_⟩
    rintro e w6 ⟨a6, c6, rfl, hf6⟩
    have h6 := hf6.add h5
    have h6 : St w [] w6 [.row 5 1 (.slice va (xn + 32) vc) (xn + 32) (bv (footL (l.take i) ++ r.id)), .arr g5 75 (refC r), .row 5 1 (.slice a6 8 c6) 8 (bv (numL (n64 r.at_)))] := h6
    obtain ⟨vd, ve, w7, r7, h7⟩ := h6.appendB (i := 0) rfl (h6.rd (i := 2) rfl) (by omega)
    have h7 : St w [] w7 [.row 5 1 (.slice vd (xn + 32 + 8) ve) (xn + 32 + 8) (bv (footL (l.take i) ++ r.id ++ numL (n64 r.at_))), .arr g5 75 (refC r), .row 5 1 (.slice a6 8 c6) 8 (bv (numL (n64 r.at_)))] := h7
    obtain ⟨_, _, fl⟩ := refFld h7 (i := 1) rfl
    refine ⟨_, _, _, rfl, _, _, _, w7, r7, _, fl, (num_bytes' r.len w7).mono ?_⟩
    rintro e w8 ⟨a8, c8, rfl, hf8⟩
    have h8 := hf8.add h7
    have h8 : St w [] w8 [.row 5 1 (.slice vd (xn + 32 + 8) ve) (xn + 32 + 8) (bv (footL (l.take i) ++ r.id ++ numL (n64 r.at_))), .arr g5 75 (refC r), .row 5 1 (.slice a6 8 c6) 8 (bv (numL (n64 r.at_))), .row 5 1 (.slice a8 8 c8) 8 (bv (numL (n64 r.len)))] := h8
    obtain ⟨vf, vg, w9, r9, h9⟩ := h8.appendB (i := 0) rfl (h8.rd (i := 3) rfl) (by omega)
    refine ⟨_, _, _, rfl, _, _, _, w9, r9, ⟨i + 1, wrap_succ hi' (by omega), by omega, ?_⟩, mu_succ hi' (by omega)⟩
    have e2 : footL (l.take (i + 1)) = footL (l.take i) ++ r.id ++ numL (n64 r.at_) ++ numL (n64 r.len) := by
      rw [List.take_add_one, ha]; simp [footL, refBy, List.append_assoc]
    rw [e2]
    exact h9.sub (List.Sublist.cons_cons _ (List.nil_sublist _))
  · have hi' : i = n := by simp at h; omega
    rw [hi', List.take_of_length_le (by omega)] at h2
    exact ⟨_, _, _, rfl, h2.freshB (i := 0) rfl⟩

end

end Go.Proofs.YtmdandkoajocpaaGreatDoor
end

section
namespace Go.Proofs.YtmdandkoajocpaaGreatDoor
open Go Sx
set_option maxRecDepth 8000

theorem SmallI.take {xs : List Itm} (h : SmallI xs) (i : Nat) : SmallI (xs.take i) := by
  refine ⟨by have := h.num; simp; omega, fun x hx => h.idl x (List.mem_of_mem_take hx), ?_⟩
  have e : (xs.take i ++ xs.drop i).map (fun x => x.2.length) = xs.map (fun x => x.2.length) := by rw [List.take_append_drop]
  have h2 := congrArg List.sum e
  rw [List.map_append, List.sum_append] at h2
  have := h.sum
  omega
theorem frames_len : ∀ (xs : List Itm), (∀ x ∈ xs, x.1.length = 32 ∧ x.2.length ≤ 67108832) → (xs.map frmT).flatten.length ≤ 42 * xs.length + (xs.map fun x => x.2.length).sum
  | [], _ => by simp
  | x :: r, h => by
    obtain ⟨h1, h2⟩ := h x (by simp)
    have := (frmT_len x h1 h2).2
    have := frames_len r fun y hy => h y (by simp [hy])
    simp only [List.map_cons, List.flatten_cons, List.length_append, List.length_cons, List.sum_cons]
    omega
theorem SmallI.bytes {xs : List Itm} (h : SmallI xs) : (xs.map frmT).flatten.length ≤ 16950000 := by
  have h1 := frames_len xs fun x hx => ⟨h.idl x hx, by have := h.blob hx; omega⟩
  have h2 := h.num
  have h3 := h.sum
  omega
theorem sizeP_ps (num : Int) (xs : List Itm) : (headP num :: xs.map frmT).flatten.length = sizeP 16 xs := by
  rw [sizeP_eq]; simp

section
variable {w0 w w' : World} {X : List Nat} {M N N' T : List Res} {g : Nat} {num : Int} {ps : List (List UInt8)} {rs : List RefD}

theorem kyA' (w : World) : (isAgg 28).run Tryz.prog w = .ok true w := Tryz.isAgg28 w
theorem kyS' (w : World) : (sizeOf 28).run Tryz.prog w = .ok 96 w := Tryz.sizeOf28 w

theorem rdRefs (h : St w0 X w M) {i : Nat} {a : Option Addr} {c : Nat} {l : List RefD} (hi : M[i]? = some (.row 75 35 (.slice a l.length c) l.length (l.flatMap refC))) : RdR w a l.length c l := ⟨h.rd hi, fun x _ => refC_len x⟩

set_option maxHeartbeats 1000000 in
theorem pkfoot_spec (K : List UInt8) (hk : K.length = 96) (hK : KTab w) (h : FileIn w0 X w g num ps rs N) (hp : ps.length < 1000000) (hrs : rs.length ≤ 4096) (hs : ps.flatten.length ≤ 1099511627776) :
    Calls Tryz.prog 72 #[.pointer (some ⟨g, 0, none⟩), .agg (bv K).toArray] w fun e w' => e = .returned (.tuple #[]) ∧ FileIn w0 X w' g num (ps ++ [footP K num rs]) rs N := by
  apply pack_file_foot_vc
  obtain ⟨g3, w1, r1, k1⟩ := (St.start w).boxA (P := Tryz.prog) 28 (bv K)
  have h1 := (h.addSt k1).same (Chg.drew [] w1)
  obtain ⟨f, rfl, rfl, q1⟩ := h1
  have cD : Chg [] w w1.drew := k1.chg.trans (Chg.drew [] w1)
  let Q : World → Prop := fun w' => St w0 X w' (.arr g 105 (fileL num f) :: .row 33 1 (.slice f.la f.ps.length f.lc) f.ps.length (f.ps.map PcD.v) :: .row 75 35 (.slice f.ra f.rs.length f.rc) f.rs.length (f.rs.flatMap refC) :: (f.ps.map PcD.row ++ (N ++ ([] ++ [.arr g3 28 (bv K)]))))
  let S : World → Prop := fun w' => ∃ v1 v2 : Value, St w0 X w' [.arr g 105 [v1, v2, .int .i64 num, .slice f.ra f.rs.length f.rc], .arr g3 28 (bv K)]
  have q1 : Q w1.drew := q1
  have tl : ∀ {L : List Res}, (([.arr g3 28 (bv K)] : List Res)).Sublist (.row 33 1 (.slice f.la f.ps.length f.lc) f.ps.length (f.ps.map PcD.v) :: .row 75 35 (.slice f.ra f.rs.length f.rc) f.rs.length (f.rs.flatMap refC) :: (L ++ (N ++ ([] ++ [.arr g3 28 (bv K)])))) := (((List.sublist_append_right N _).trans (List.sublist_append_right _ _)).trans (List.sublist_cons_self _ _)).trans (List.sublist_cons_self _ _)
  have sk : ∀ w', Q w' → S w' := fun w' h => ⟨_, _, Sx.St.sub h (List.Sublist.cons_cons _ tl)⟩
  refine ⟨g3, w1, r1, S, sk _ q1, _, fun w' ⟨v1, v2, hw⟩ => hw.ldA (i := 1) (l := bv K) rfl (kyA' _) (kyS' _) (by simp [hk]), _, fun w' ⟨v1, v2, hw⟩ => hw.ldL (i := 0) (o := 2) rfl (inA _) rfl rfl, _, _, _, fun w' ⟨v1, v2, hw⟩ => hw.ldL (i := 0) (o := 3) rfl (rsA' _) rfl rfl, (num_bytes' num _).mono ?_⟩
  rintro e w2 ⟨a2, c2, rfl, hf2⟩
  have q2 : Q w2 := Sx.St.same q1 hf2.1
  refine ⟨_, _, _, rfl, S, fun _ h => h, sk _ q2, (footPlain_spec _ _ _ f.rs w2 (rdRefs q2 (i := 2) rfl) (by omega)).mono ?_⟩
  rintro e w3 ⟨a3, n3, c3, rfl, hf3⟩
  have q3 : Q w3 := Sx.St.same q2 hf3.1
  have hn3 : n3 = 48 * f.rs.length := by rw [← hf3.2.1, footL_len]
  refine ⟨_, _, _, rfl, S, fun _ h => h, sk _ q3, (seal_spec K 3 a2 8 c2 (numL (n64 num)) a3 n3 c3 (footL f.rs) w3 hk (((hK.keep0 cD).keep0 hf2.1).keep0 hf3.1) (hf2.rdB.keep0 hf3.1) hf3.rdB (by omega)).mono ?_⟩
  rintro e w4 ⟨a4, n4, c4, rfl, hf4⟩
  have q4 : Q w4 := Sx.St.same q3 hf4.1
  have hsl := sealF_len K 3 (numL (n64 num)) (footL f.rs) (by rw [footL_len]; omega)
  rw [footL_len] at hsl
  obtain ⟨g5, w5, r5, k5⟩ := (St.start w4).lit bbT [.slice a4 n4 c4] (by simp [Value.oneCell']) (by simp)
  have q5 : Q w5 := Sx.St.same q4 k5.chg
  refine ⟨_, _, _, rfl, S, fun _ h => h, sk _ q4, _, _, _, w5, r5, S, fun _ h => h, sk _ q5, (frame_spec 3 _ 1 1 _ [sealF K 3 (numL (n64 num)) (footL f.rs)] w5 (k5.rd (i := 0) rfl) (Row2.cons (hf4.rdB.keep0 k5.chg) (Row2.nil _)) (by simp; omega) (by simp)).mono ?_⟩
  rintro e w6 ⟨a6, n6, c6, rfl, hf6⟩
  have eF : frameL 3 [sealF K 3 (numL (n64 num)) (footL f.rs)].flatten = footP K num f.rs := by simp [footP]
  rw [eF] at hf6
  have hn6 : (footP K num f.rs).length = n6 := hf6.2.1
  subst hn6
  have hfl : (footP K num f.rs).length ≤ 67108864 := by
    have := varL_len 9 (sealF K 3 (numL (n64 num)) (footL f.rs)).length (by omega) (by decide)
    simp only [footP, frameL, List.length_cons, List.length_append]
    omega
  have q6 : Q w6 := Sx.St.same q5 hf6.1
  have h6 : St w0 X w6 (fileR g num f ++ (f.ps.map PcD.row ++ ((N ++ ([] ++ [.arr g3 28 (bv K)])) ++ [.row 5 1 (.slice a6 (footP K num f.rs).length c6) (footP K num f.rs).length (bv (footP K num f.rs))]))) := by
    have q5' : St w0 X w5 ((fileR g num f ++ (f.ps.map PcD.row ++ (N ++ ([] ++ [.arr g3 28 (bv K)])))) ++ []) := by rw [List.append_nil]; exact q5
    have := Sx.St.callPart (N := []) q5' (hf6.add (St.start w5))
    simpa only [List.append_assoc, List.nil_append] using this
  refine ⟨_, _, _, rfl, S, fun _ h => h, sk _ q6, (pkput_spec' h6 (by simpa using hp) (by omega)).mono ?_⟩
  rintro e w7 ⟨rfl, la, lc, h7⟩
  have h7' : St w0 X w7 (.arr g 105 (fileL num { f with la := la, lc := lc, ps := f.ps ++ [⟨a6, c6, footP K num f.rs⟩] }) :: .row 33 1 (.slice la (f.ps ++ [(⟨a6, c6, footP K num f.rs⟩ : PcD)]).length lc) (f.ps ++ [(⟨a6, c6, footP K num f.rs⟩ : PcD)]).length ((f.ps ++ [(⟨a6, c6, footP K num f.rs⟩ : PcD)]).map PcD.v) :: .row 75 35 (.slice f.ra f.rs.length f.rc) f.rs.length (f.rs.flatMap refC) :: ((f.ps ++ [(⟨a6, c6, footP K num f.rs⟩ : PcD)]).map PcD.row ++ (N ++ ([] ++ [.arr g3 28 (bv K)])))) := h7
  refine ⟨rfl, S, fun _ h => h, ⟨_, _, h7'.sub (List.Sublist.cons_cons _ ?_)⟩, rfl, { f with la := la, lc := lc, ps := f.ps ++ [⟨a6, c6, footP K num f.rs⟩] }, by simp, rfl, h7.sub (List.Sublist.append_left (List.Sublist.append_left (List.sublist_append_left _ _) _) _)⟩
  exact (((List.sublist_append_right N _).trans (List.sublist_append_right _ _)).trans (List.sublist_cons_self _ _)).trans (List.sublist_cons_self _ _)

end

end Go.Proofs.YtmdandkoajocpaaGreatDoor
end

section
namespace Go.Proofs.YtmdandkoajocpaaGreatDoor
open Go Sx
set_option maxRecDepth 8000

section
variable {w0 w w' : World} {X : List Nat} {M N N' T : List Res} {g : Nat} {num : Int} {ps : List (List UInt8)} {rs : List RefD}

theorem pkgood_spec (num : Int) (w : World) : Calls Tryz.prog 43 #[.int .i64 num] w fun e w' => e = .returned (.bool (goodP num)) ∧ w' = w := by
  apply pack_good_vc
  exact ⟨by simp [goodP, ge_iff_le], rfl⟩

theorem copyIt {a : Option Addr} {n c i : Nat} {l : List ItD} {x : ItD} (hr : ItR w a n c l) (hx : l[i]? = some x) (h : St w0 X w M) :
    ∃ b o g w1 w2, a = some ⟨b, o, none⟩ ∧ (Instr.loadAt 46 (.pointer (some ⟨b, o + Int.toNat (i : Int) * 33, none⟩))).run Tryz.prog w = .ok (.agg (itC x).toArray) w ∧ (Instr.alloc 46 true (.tuple #[])).run Tryz.prog w = .ok (.pointer (some ⟨g, 0, none⟩)) w1 ∧
      (Instr.storeAt 46 (.pointer (some ⟨g, 0, none⟩)) (.agg (itC x).toArray)).run Tryz.prog w1 = .ok () w2 ∧ St w0 X w2 (M ++ [.arr g 46 (itC x)]) := by
  obtain ⟨b, o, hab, q⟩ := hr.rd.ld (P := Tryz.prog) (by decide) itA itS hx
  obtain ⟨g, w1, r1, h1⟩ := h.zeroA itZ
  obtain ⟨w2, r2, h2⟩ := h1.stA (i := M.length) (v := itC x) List.getElem?_concat_length (itS _) (itC_len _) (itC_len _) (itC_one _)
  refine ⟨b, o, g, w1, w2, hab, q w hr.rd, r1, r2, ?_⟩
  rw [List.set_append_right _ _ (Nat.le_refl _), Nat.sub_self] at h2
  exact h2

set_option maxHeartbeats 1000000 in
theorem pkmade_spec (K : List UInt8) (hk : K.length = 96) (num : Int) (a : Option Addr) (n c : Nat) (l : List ItD) (w : World) (hK : KTab w) (hg : goodP num = true) (hr : ItR w a n c l) (hs : SmallI (l.map ItD.t)) :
    Calls Tryz.prog 39 #[.agg (bv K).toArray, .int .i64 num, .slice a n c] w fun e w' => ∃ g, e = .returned (.tuple #[.pointer (some ⟨g, 0, none⟩), errV none]) ∧ FileIn w [] w' g num (piecesP K num (l.map ItD.t)) (refsP num 16 (l.map ItD.t)) [] := by
  have hln := hr.rd.num (by decide)
  have hnum := hs.num
  rw [List.length_map] at hnum
  have hgi := goodP_iff.1 hg
  have hbl : ∀ x ∈ l, x.n ≤ 16777216 := fun x hx => by
    have h1 := (hr.blobs x hx).lenB
    have h2 : x.blob.length ≤ 16777216 := hs.blob (List.mem_map_of_mem hx)
    omega
  apply pack_made_vc
  obtain ⟨g3, w1, r1, k1⟩ := (St.start w).boxA (P := Tryz.prog) 28 (bv K)
  have k1 : St w [] w1 [.arr g3 28 (bv K)] := k1
  refine ⟨g3, w1, r1, (pkgood_spec num w1).mono ?_⟩
  rintro e w2 ⟨rfl, rfl⟩
  rw [hg]
  refine ⟨_, rfl, fun h => (by cases h), fun _ => ⟨fun x w' => ∃ i : Nat, x = (i : Int) ∧ i ≤ n ∧ St w [] w' [.arr g3 28 (bv K)], fun x _ => n - x.toNat, ⟨0, rfl, by omega, k1⟩, ?_⟩⟩
  rintro x w3 ⟨i, rfl, hi, k3⟩
  refine ⟨fun h => ?_, fun h => ?_⟩
  · have hi' : i < n := by simp at h; omega
    have hx : l[i]? = some l[i] := List.getElem?_eq_getElem (by omega)
    obtain ⟨b, o, g9, w4, w5, hab, hld, r4, r5, k5⟩ := copyIt (hr.keep0 k3.chg) hx k3
    have hb := hbl l[i] (List.getElem_mem _)
    refine ⟨b, o, hab, by omega, by omega, _, hld, g9, w4, r4, w5, r5, _, _, _, k5.ldL (i := 1) (o := 32) rfl (bsA' _) rfl (itC_blob _), fun h => ?_, fun _ => ⟨⟨i + 1, wrap_succ hi' (by omega), by omega, k5.sub (List.sublist_append_left _ _)⟩, mu_succ hi' (by omega)⟩⟩
    simp at h; omega
  refine (pkbegin_spec num w3).mono ?_
  rintro e w6 ⟨g, rfl, h6⟩
  have k6 := k3.same h6.chg
  have h6 : FileIn w [] w6 g num [headP num] [] [.arr g3 28 (bv K)] := by
    obtain ⟨f, e1, e2, hS⟩ := h6
    have := Sx.St.callPart (M := [.arr g3 28 (bv K)]) (N := []) k3 hS
    refine ⟨f, e1, e2, this.perm ?_⟩
    rw [List.append_nil (List.map PcD.row f.ps), ← List.append_assoc (fileR g num f)]
    exact List.perm_append_comm
  refine ⟨_, _, rfl, fun x w' => ∃ i : Nat, x = (i : Int) ∧ i ≤ n ∧ FileIn w [] w' g num (headP num :: ((l.map ItD.t).take i).map frmT) (refsP num 16 ((l.map ItD.t).take i)) [.arr g3 28 (bv K)], fun x _ => n - x.toNat, ⟨0, rfl, by omega, by simpa [refsP] using h6⟩, ?_⟩
  rintro x w7 ⟨i, rfl, hi, h7⟩
  have hst := hs.take i
  have hby := hst.bytes
  refine ⟨fun h => ?_, fun h => ?_⟩
  · have hi' : i < n := by simp at h; omega
    have hx : l[i]? = some l[i] := List.getElem?_eq_getElem (by omega)
    obtain ⟨x, hxx⟩ : ∃ x, l[i] = x := ⟨_, rfl⟩
    rw [hxx] at hx
    have hxm := List.mem_of_getElem? hx
    obtain ⟨b, o, g9, w8, w9, hab, hld, r8, r9, k9⟩ := copyIt (hr.keep0 h7.chg) hx (St.start w7)
    have h9 := h7.addSt k9
    have e16 : (headP num :: ((l.map ItD.t).take i).map frmT).flatten.length = sizeP 16 ((l.map ItD.t).take i) := sizeP_ps num _
    have hlt : ((l.map ItD.t).take i).length ≤ 4096 := hst.num
    refine ⟨b, o, hab, by omega, by omega, _, hld, g9, w8, r8, w9, r9, _, k9.ldA (i := 0) (l := itC x) rfl (itA _) (itS _) (itC_len _), (pkitem_spec x h9 ((hr.blobs x hxm).keep0 h9.chg) (by have := hbl x hxm; omega) (by simp; omega) (by rw [refsP_len]; omega) (by rw [List.flatten_cons, List.length_append, headP_len]; omega) ⟨by omega, by omega⟩).mono ?_⟩
    rintro e w10 ⟨rfl, h10⟩
    refine ⟨rfl, ⟨i + 1, wrap_succ hi' (by omega), by omega, ?_⟩, mu_succ hi' (by omega)⟩
    have et : (l.map ItD.t).take (i + 1) = (l.map ItD.t).take i ++ [x.t] := by
      rw [List.take_add_one, List.getElem?_map, hx]; rfl
    rw [et, refsP_snoc, List.map_append]
    rw [e16] at h10
    exact h10.dropN (List.sublist_append_left _ _)
  · have hi' : i = n := by simp at h; omega
    rw [hi', List.take_of_length_le (by simp; omega)] at h7 hby
    refine ⟨_, (h7.rest).ldA (i := 0) (l := bv K) rfl (kyA' _) (kyS' _) (by simp [hk]), (pkfoot_spec K hk (hK.keep0 h7.chg) h7 (by simp; omega) (by rw [refsP_len]; simp; omega) (by rw [List.flatten_cons, List.length_append, headP_len]; omega)).mono ?_⟩
    rintro e w11 ⟨rfl, h11⟩
    exact ⟨rfl, g, rfl, h11.dropN (List.nil_sublist _)⟩

theorem growNil_spec (n : Nat) (w : World) (hb : n ≤ 1099511627776) : Calls Tryz.prog 73 #[.slice none 0 0, .int .i64 (n : Int)] w fun e w' => ∃ a c, e = .returned (.slice a 0 c) ∧ St w [] w' [.row 5 1 (.slice a 0 c) 0 []] := by
  obtain ⟨inf, hinf, hz, hsz, hby⟩ := (bT).inf
  apply slices_Grow_byte_byte_vc
  have e0 : IntKind.wrap .i64 (((0 : Nat) : Int) - ((0 : Nat) : Int)) = 0 := by rw [wrap_i64 (by omega) (by omega)]; rfl
  have e1 : IntKind.wrap .i64 ((n : Int) - (0 : Int)) = (n : Int) := by rw [wrap_i64 (by omega) (by omega)]; omega
  rw [e0, e1]
  refine ⟨fun w' => w' = w, ⟨fun h => ?_, fun _ => rfl⟩, ?_⟩
  · simp at h; omega
  rintro w1 rfl
  refine ⟨fun a k c w' => k = 0 ∧ St w1 [] w' [.row 5 1 (.slice a 0 c) 0 []], ⟨fun h => ?_, fun h => ⟨rfl, (St.start w1).addNil _ _⟩⟩, ?_⟩
  · have hn : 0 < n := by simp at h; omega
    have hr := Lib.run_append_grow_zeros (P := Tryz.prog) w1 33 3 33 5 inf (.int .u8 0) .i64 .i64 (bT).ht Tryz.underlying3 hinf hz none 0 0 [] (run_firstCells_none _ _ _ _ _) n hn (by rw [hsz]; decide) (by omega) (by omega) (by rw [hby]; omega) (growslice_fits (by omega) (by rw [hby]; omega))
    have hge := grownCap_ge w1 (0 + n) 0 5
    have hm : 0 + n ≤ maxLen := by simp only [maxLen]; omega
    have hcm := grownCap_le_maxLen w1 (0 + n) 0 5 hm
    refine ⟨by omega, by omega, _, _, _, _, hr, by omega, by omega, rfl, (St.start w1).add ((Chg.drew [] w1).trans (Chg.alloc _ _)) ⟨rfl, .inr ⟨w1.heap.size, _, _, rfl, Nat.zero_le _, heap_alloc_new w1.drew _, Nat.zero_le _, hcm, ?_, by simp⟩⟩ (by simp [Res.fp, Value.ownBlock])⟩
    simp only [Array.size_append, List.size_toArray, size_zeroCells, (bT).zs, List.length_nil]
    omega
  · rintro a k c w3 ⟨rfl, h3⟩
    exact ⟨a, c, rfl, h3⟩

theorem concat_spec (a : Option Addr) (n c : Nat) (vs : List Value) (ls : List (List UInt8)) (w : World) (hr : Rd w a n c 1 vs) (h2 : Row2 w vs ls) (hb : ls.flatten.length ≤ 1099511627776) (hn : ls.length ≤ 1048576) :
    Calls Tryz.prog 40 #[.slice a n c] w fun e w' => ∃ a' n' c', e = .returned (.slice a' n' c') ∧ FreshB w w' a' n' c' ls.flatten := by
  have hln : ls.length = n := by have := hr.len; have := h2.len; omega
  apply slices_Concat_byte_byte_vc
  refine ⟨fun x y w' => ∃ i : Nat, y = (i : Int) ∧ i ≤ n ∧ x = (((ls.take i).flatten.length : Nat) : Int) ∧ w' = w, fun _ y _ => n - y.toNat, ⟨0, rfl, by omega, by simp, rfl⟩, ?_⟩
  rintro x y w1 ⟨i, rfl, hi, rfl, rfl⟩
  have hft := flat_take_le ls i
  refine ⟨fun h => ?_, fun h => ?_⟩
  · have hi' : i < n := by simp at h; omega
    obtain ⟨b, o, a', n', c', ha, hv, hrd, hld⟩ := ixS hr.cells h2 (i := i) (by omega)
    have hl' := hrd.lenB
    have hf1 := flat_take (ls := ls) (i := i) (by omega)
    have hf2 := flat_take_le ls (i + 1)
    rw [hf1, List.length_append, hl'] at hf2
    have ew : IntKind.wrap .i64 ((((ls.take i).flatten.length : Nat) : Int) + ((n' : Nat) : Int)) = (((ls.take i).flatten.length + n' : Nat) : Int) := by rw [wrap_i64 (by omega) (by omega)]; omega
    refine ⟨b, o, ha, by omega, by omega, _, _, _, hld w1 hr.cells, ?_⟩
    rw [ew]
    refine ⟨fun w' => w' = w1, ⟨fun h => ?_, fun _ => rfl⟩, ?_⟩
    · simp at h; omega
    rintro w2 rfl
    exact ⟨⟨i + 1, wrap_succ hi' (by omega), by omega, by rw [hf1, List.length_append, hl'], rfl⟩, mu_succ hi' (by omega)⟩
  · have hi' : i = n := by simp at h; omega
    rw [hi', ← hln, List.take_length]
    rw [hln]
    refine (growNil_spec ls.flatten.length w1 hb).mono ?_
    rintro e w3 ⟨ga, gc, rfl, k3⟩
    refine ⟨_, _, _, rfl, fun xa xn xc y w' => ∃ i : Nat, y = (i : Int) ∧ i ≤ n ∧ xn = (ls.take i).flatten.length ∧ St w1 [] w' [.row 5 1 (.slice xa xn xc) xn (bv (ls.take i).flatten)], fun _ _ _ y _ => n - y.toNat, ⟨0, rfl, by omega, by simp, by simpa using k3⟩, ?_⟩
    rintro xa xn xc y w5 ⟨i, rfl, hi, rfl, hS⟩
    have hft := flat_take_le ls i
    refine ⟨fun h => ?_, fun h => ?_⟩
    · have hi' : i < n := by simp at h; omega
      obtain ⟨b, o, a', n', c', ha, hv, hrd, hld⟩ := ixS hr.cells h2 (i := i) (by omega)
      have hl' := hrd.lenB
      have hf1 := flat_take (ls := ls) (i := i) (by omega)
      have hf2 := flat_take_le ls (i + 1)
      rw [hf1, List.length_append, hl'] at hf2
      obtain ⟨va, vc, w6, r6, h6⟩ := hS.appendB (i := 0) rfl (hS.rd1 hrd) (by omega)
      refine ⟨b, o, ha, by omega, by omega, _, _, _, hld w5 (hr.cells.keep0 hS.chg), _, _, _, _, r6, ⟨i + 1, wrap_succ hi' (by omega), by omega, ?_, ?_⟩, mu_succ hi' (by omega)⟩
      · rw [hf1, List.length_append, hl']
      · rw [hf1]; exact h6
    · have hi' : i = n := by simp at h; omega
      subst hi'
      rw [← hln, List.take_length] at hS ⊢
      exact ⟨_, _, _, rfl, hS.freshB (i := 0) rfl⟩

theorem rowsR2 {ps : List PcD} {L : List Res} (h : St w0 X w (ps.map PcD.row ++ L)) : Row2 w (ps.map PcD.v) (ps.map PcD.l) := by
  refine ⟨by simp, fun i hi => ?_⟩
  have hi' : i < ps.length := by simpa using hi
  have hp : ps[i]? = some ps[i] := List.getElem?_eq_getElem hi'
  refine ⟨ps[i].a, ps[i].l.length, ps[i].c, by rw [List.getElem?_map, hp]; rfl, ?_⟩
  have e : (ps.map PcD.l).getD i [] = ps[i].l := by rw [List.getD_eq_getElem?_getD, List.getElem?_map, hp]; rfl
  rw [e]
  exact h.rd (i := i) (by rw [List.getElem?_append_left (by simpa using hi'), List.getElem?_map, hp]; rfl)

theorem pieces_len (K : List UInt8) (num : Int) (xs : List Itm) : (piecesP K num xs).length = xs.length + 2 := by simp [piecesP]
theorem build_len (K : List UInt8) (num : Int) {xs : List Itm} (h : SmallI xs) : (buildP K num xs).length ≤ 90000000 := by
  have h1 := h.bytes
  have h2 := h.num
  have hsl := sealF_len K 3 (numL (n64 num)) (footL (refsP num 16 xs)) (by rw [footL_len, refsP_len]; omega)
  rw [footL_len, refsP_len] at hsl
  have hv := varL_len 9 (sealF K 3 (numL (n64 num)) (footL (refsP num 16 xs))).length (by omega) (by decide)
  simp only [buildP, piecesP, List.cons_append, List.flatten_cons, List.flatten_append, List.flatten_nil, List.append_nil, List.length_append, headP_len, footP, frameL, List.length_cons]
  omega

theorem build_spec13 (K : List UInt8) (hk : K.length = 96) (num : Int) (a : Option Addr) (n c : Nat) (l : List ItD) (w : World) (hK : KTab w) (hg : goodP num = true) (hr : ItR w a n c l) (hs : SmallI (l.map ItD.t)) :
    Calls Tryz.prog 11 #[.agg (bv K).toArray, .int .i64 num, .slice a n c] w fun e w' => ∃ ba bn bc ra rc, e = .returned (.tuple #[.slice ba bn bc, .slice ra (refsP num 16 (l.map ItD.t)).length rc, errV none]) ∧ bn = (buildP K num (l.map ItD.t)).length ∧
      St w [] w' [.row 5 1 (.slice ba bn bc) bn (bv (buildP K num (l.map ItD.t))), .row 75 35 (.slice ra (refsP num 16 (l.map ItD.t)).length rc) (refsP num 16 (l.map ItD.t)).length ((refsP num 16 (l.map ItD.t)).flatMap refC)] := by
  obtain ⟨mI, hI⟩ := eI
  have hln : l.length ≤ 4096 := by have := hs.num; simpa using this
  apply pack_Build_vc
  obtain ⟨g3, w1, r1, k1⟩ := (St.start w).boxA (P := Tryz.prog) 28 (bv K)
  refine ⟨g3, w1, r1, _, k1.ldA (i := 0) (l := bv K) rfl (kyA' _) (kyS' _) (by simp [hk]), (pkmade_spec K hk num a n c l w1 (hK.keep0 k1.chg) hg (hr.keep0 k1.chg) hs).mono ?_⟩
  rintro e w2 ⟨g, rfl, h2⟩
  obtain ⟨f, e1, e2, hS⟩ := h2.same (Chg.drew [] w2)
  have hS : St w1 [] w2.drew ([.arr g 105 (fileL num f), .row 33 1 (.slice f.la f.ps.length f.lc) f.ps.length (f.ps.map PcD.v), .row 75 35 (.slice f.ra f.rs.length f.rc) f.rs.length (f.rs.flatMap refC)] ++ (f.ps.map PcD.row ++ [])) := hS
  let S : World → Prop := fun w' => St w1 [] w' ([.arr g 105 (fileL num f), .row 33 1 (.slice f.la f.ps.length f.lc) f.ps.length (f.ps.map PcD.v), .row 75 35 (.slice f.ra f.rs.length f.rc) f.rs.length (f.rs.flatMap refC)] ++ (f.ps.map PcD.row ++ []))
  have hpl : f.ps.length = l.length + 2 := by have := congrArg List.length e1; rw [List.length_map, pieces_len, List.length_map] at this; exact this
  have hfl : (f.ps.map PcD.l).flatten = buildP K num (l.map ItD.t) := by rw [e1]; rfl
  have hbl := build_len K num hs
  refine ⟨_, _, rfl, _, neqS_nil hI none _ _, fun h => (by cases h), fun _ => ⟨S, hS, g, 0, rfl, g, 0, rfl, _, _, _, fun w' hw => Sx.St.ldL hw (i := 0) (o := 0) rfl (bbA' _) rfl rfl, _, _, _, fun w' hw => Sx.St.ldL hw (i := 0) (o := 3) rfl (rsA' _) rfl rfl, (concat_spec f.la f.ps.length f.lc _ (f.ps.map PcD.l) w2.drew (hS.rd (i := 1) rfl) (rowsR2 (hS.sub (List.sublist_append_right _ _))) (by rw [hfl]; omega) (by simp; omega)).mono ?_⟩⟩
  rintro e w3 ⟨ba, bn, bc, rfl, hf3⟩
  rw [hfl] at hf3
  have q3 : S w3 := hS.same hf3.1
  have hbn : (buildP K num (l.map ItD.t)).length = bn := hf3.2.1
  rw [← e2]
  refine ⟨_, _, _, rfl, S, fun _ h => h, q3, ba, bn, bc, f.ra, f.rc, rfl, hbn.symm, ?_⟩
  have h3 := hf3.add (hS.sub (N := [.row 75 35 (.slice f.ra f.rs.length f.rc) f.rs.length (f.rs.flatMap refC)]) (((List.sublist_cons_self _ _).trans (List.sublist_cons_self _ _)).trans (List.sublist_append_left _ _)))
  have h4 : St w1 [] w3 [.row 5 1 (.slice ba bn bc) bn (bv (buildP K num (l.map ItD.t))), .row 75 35 (.slice f.ra f.rs.length f.rc) f.rs.length (f.rs.flatMap refC)] := h3.perm (List.perm_append_comm (l₁ := [_]))
  exact Sx.St.callPart (M := []) (N := []) ((St.start w).same k1.chg) h4

end

end Go.Proofs.YtmdandkoajocpaaGreatDoor
end

section
namespace Go.Proofs.YtmdandkoajocpaaGreatDoor
open Go Sx
set_option maxRecDepth 8000

structure FrD where
  k : UInt8
  a : Option Addr
  c : Nat
  body : List UInt8
  at_ : Nat
abbrev Frm := UInt8 × List UInt8 × Nat
def FrD.t (x : FrD) : Frm := (x.k, x.body, x.at_)
def FrD.v (x : FrD) : Value := .slice x.a x.body.length x.c
def frC (x : FrD) : List Value := [.int .i64 (x.k.toNat : Int), .slice x.a x.body.length x.c, .int .i64 (x.at_ : Int)]
theorem frC_one (x : FrD) : ∀ v ∈ frC x, v.oneCell' = true := fun v hv => by
  simp only [frC, List.mem_cons, List.not_mem_nil, or_false] at hv
  rcases hv with rfl | rfl | rfl <;> rfl
theorem fmA (w : World) : (isAgg 137).run Tryz.prog w = .ok true w := Tryz.isAgg137 w
theorem fmS (w : World) : (sizeOf 137).run Tryz.prog w = .ok 3 w := Tryz.sizeOf137 w
def fr0 : FrD := ⟨0, none, 0, [], 0⟩
theorem fmZ (w : World) : (zeroValue 137).run Tryz.prog w = .ok (.agg (frC fr0).toArray) w := Tryz.zeroValue137 w
theorem pfsA (w : World) : (isAgg 132).run Tryz.prog w = .ok false w := Tryz.isAgg132 w
theorem pfsS (w : World) : (sizeOf 132).run Tryz.prog w = .ok 1 w := Tryz.sizeOf132 w
theorem fsZ (w : World) : (zeroValue 132).run Tryz.prog w = .ok (.slice none 0 0) w := Tryz.zeroValue132 w
theorem inZ (w : World) : (zeroValue 3).run Tryz.prog w = .ok (.int .i64 0) w := Tryz.zeroValue3 w

/-- Frames that may be read. -/
structure RdFr (w : World) (a : Option Addr) (n c : Nat) (L : List FrD) : Prop where
  rd : RdE frC 3 w a n c L
  body : ∀ x ∈ L, RdB w x.a x.body.length x.c x.body
theorem RdFr.keep0 {w w' : World} {a : Option Addr} {n c : Nat} {L : List FrD} (h : RdFr w a n c L) (hc : Chg [] w w') : RdFr w' a n c L := ⟨h.rd.keep0 hc, fun x hx => (h.body x hx).keep0 hc⟩

theorem frList : ∀ (vs : List Value) (fs : List Frm), vs.length = fs.length → (∀ i, i < (fs.map fun f => f.2.1).length → ∃ a c, vs[i]? = some (.slice a ((fs.map fun f => f.2.1).getD i []).length c)) → ∃ L : List FrD, L.map FrD.t = fs ∧ L.map FrD.v = vs ∧ L.flatMap frC = frCells vs fs
  | [], [], _, _ => ⟨[], rfl, rfl, rfl⟩
  | [], _ :: _, h, _ => by simp at h
  | _ :: _, [], h, _ => by simp at h
  | v :: vs, f :: fs, h, hd => by
    obtain ⟨a, c, hv⟩ := hd 0 (by simp)
    simp only [List.getElem?_cons_zero, Option.some.injEq, List.map_cons, List.getD_cons_zero] at hv
    obtain ⟨L, h1, h2, h3⟩ := frList vs fs (by simpa using h) fun i hi => by
      obtain ⟨a', c', hv'⟩ := hd (i + 1) (by simpa using hi)
      exact ⟨a', c', by simpa using hv'⟩
    refine ⟨⟨f.1, a, c, f.2.1, f.2.2⟩ :: L, by simp [FrD.t, h1], by simp [FrD.v, h2, hv], ?_⟩
    rw [List.flatMap_cons, h3, hv]
    simp [frC, frCells]

theorem OwnF.list {w w' : World} {a : Option Addr} {n c : Nat} {vs : List Value} {fs : List Frm} (h : OwnF w w' a n c vs fs) : ∃ L : List FrD, L.map FrD.t = fs ∧ RdFr w' a n c L := by
  obtain ⟨L, h1, h2, h3⟩ := frList vs fs h.len h.hd
  have hr := h.rdF
  refine ⟨L, h1, ⟨by rw [h3]; exact hr.rd, fun x _ => rfl⟩, fun x hx => ?_⟩
  obtain ⟨i, hi, rfl⟩ := List.getElem_of_mem hx
  have hfs : (fs.map fun f => f.2.1).getD i [] = L[i].body := by
    rw [← h1, List.getD_eq_getElem?_getD]; simp [hi, FrD.t]
  obtain ⟨a', n', c', e1, e2⟩ := hr.row.rd i (by rw [← h1]; simpa using hi)
  rw [hfs] at e2
  rw [← h2, List.getElem?_map, List.getElem?_eq_getElem hi] at e1
  simp only [Option.map_some, FrD.v, Option.some.injEq, Value.slice.injEq] at e1
  obtain ⟨rfl, rfl, rfl⟩ := e1
  exact e2

def endF (e : Nat) : List Frm → Nat
  | [] => e
  | f :: _ => f.2.2
def refsS (num : Int) (e : Nat) : List Frm → List RefD
  | [] => []
  | f :: r => if f.1 = 2 ∧ 32 ≤ f.2.1.length then mkRef (f.2.1.take 32) num (((16 + endF e r : Nat) : Int) - ((f.2.1.length - 32 : Nat) : Int)) ((f.2.1.length - 32 : Nat) : Int) :: refsS num e r else []
theorem refsS_len (num : Int) (e : Nat) : ∀ l : List Frm, (refsS num e l).length ≤ l.length
  | [] => Nat.le_refl _
  | f :: r => by
    unfold refsS
    split
    · have := refsS_len num e r; simp only [List.length_cons]; omega
    · simp
def framesL (l : List UInt8) : List Frm × Nat := framesF (l.length + 1) l 0
theorem framesF_bound : ∀ (k : Nat) (l : List UInt8) (p : Nat), (framesF k l p).2 ≤ p + l.length ∧ (∀ f ∈ (framesF k l p).1, f.2.2 ≤ p + l.length ∧ f.2.1.length ≤ l.length) ∧ (framesF k l p).1.length ≤ l.length
  | 0, l, p => ⟨by simp [framesF], by simp [framesF], by simp [framesF]⟩
  | k + 1, l, p => by
    unfold framesF
    cases h : frameF l with
    | none => exact ⟨by simp, by simp, by simp⟩
    | some q =>
      obtain ⟨kk, b, r⟩ := q
      obtain ⟨t, rfl, h1, h2⟩ := frameF_some h
      obtain ⟨i1, i2, i3⟩ := framesF_bound k r (p + ((kk :: t).length - r.length))
      simp only
      refine ⟨by omega, fun f hf => ?_, by simp only [List.length_cons] at *; omega⟩
      rcases List.mem_cons.1 hf with rfl | hf
      · simp only; omega
      · have := i2 f hf; omega

section
variable {w0 w w' : World} {X : List Nat} {M N N' T : List Res}

theorem ndT {p : Prop} [Decidable p] (h : (!decide p) = true) : ¬ p := fun hp => by simp [hp] at h
theorem ndF {p : Prop} [Decidable p] (h : (!decide p) = false) : p := by
  by_cases hp : p
  · exact hp
  · simp [hp] at h

theorem rdB_drop13 {a a' : Option Addr} {n c k : Nat} {l : List UInt8} (hr : RdB w a n c l) (hs : SubA 1 a k c a') (hk : k ≤ n) : RdB w a' (n - k) (c - k) (l.drop k) := by
  have hl := hr.lenB
  have h1 := Rd.sub hr hs (hh := n) hk (Nat.le_refl _) hr.le (Nat.le_refl _)
  have e2 : ((bv l).drop (k * 1)).take ((n - k) * 1) = bv (l.drop k) := by
    rw [Nat.mul_one, Nat.mul_one, List.take_of_length_le (by simp; omega), bv_drop]
  rw [e2] at h1
  exact h1

def headF (b : List UInt8) : Option Int := if 16 ≤ b.length ∧ b.take 8 = magicL ∧ goodP ((readNumF ((b.drop 8).take 8)).getD 0) = true then readNumF ((b.drop 8).take 8) else none

theorem magic_str (l : List UInt8) : ((⟨l.toArray⟩ : ByteArray).toList == (ByteArray.mk #[97, 109, 112, 104, 112, 97, 99, 107]).toList) = decide (l = magicL) := by
  rw [ByteArray.toList_eq, ByteArray.toList_eq]
  show (l == magicL) = _
  by_cases h : l = magicL
  · rw [h]; rfl
  · rw [decide_eq_false h]; exact beq_eq_false_iff_ne.2 h

theorem head_spec (a : Option Addr) (n c : Nat) (b : List UInt8) (w : World) (hr : RdB w a n c b) :
    Calls Tryz.prog 55 #[.slice a n c] w fun e w' => ∃ (x : Int) (ok : Bool), e = .returned (.tuple #[.int .i64 x, .bool ok]) ∧ headF b = (if ok then some x else none) ∧ w' = w := by
  obtain ⟨mI, hI⟩ := eI
  have hl := hr.lenB
  subst hl
  apply pack_head_vc
  refine ⟨fun x w' => x = !decide (16 ≤ b.length ∧ b.take 8 = magicL) ∧ w' = w, ⟨fun h => ?_, fun h => ?_⟩, ?_⟩
  · have : ¬ 16 ≤ b.length := by simp at h; omega
    exact ⟨by simp [this], rfl⟩
  · have h16 : 16 ≤ b.length := by simp at h; omega
    have hcap := hr.le
    have h8 := rdB_upto hr (k := 8) (by omega)
    refine ⟨by omega, by omega, _, toStr bS bE sS h8.cells (by simp; omega), ?_, rfl⟩
    rw [magic_str]; simp [h16]
  rintro x w1 ⟨rfl, rfl⟩
  refine ⟨fun h => ⟨0, false, rfl, ?_, rfl⟩, fun h => ?_⟩
  · have : ¬ (16 ≤ b.length ∧ b.take 8 = magicL) := ndT h
    rw [headF, if_neg (fun h => this ⟨h.1, h.2.1⟩)]; rfl
  have hh : 16 ≤ b.length ∧ b.take 8 = magicL := ndF h
  have hcap := hr.le
  refine ⟨by omega, by omega, by omega, fun t hs => ?_⟩
  have hsub := Rd.sub hr hs (hh := 16) (by decide) hh.1 (by omega) (Nat.le_refl _)
  have e2 : ((bv b).drop (8 * 1)).take ((16 - 8) * 1) = bv ((b.drop 8).take 8) := by rw [bv_take, bv_drop]
  rw [e2] at hsub
  refine (readNum_spec t 8 (c - 8) ((b.drop 8).take 8) w1 hsub).mono ?_
  rintro e w2 ⟨rfl, rfl⟩
  have hlen : ((b.drop 8).take 8).length = 8 := by simp; omega
  have hrn : readNumF ((b.drop 8).take 8) = some (IntKind.wrap .i64 (beNat ((b.drop 8).take 8) : Int)) := by rw [readNumF, if_pos hlen]
  obtain ⟨v, hv⟩ : ∃ v, IntKind.wrap .i64 (beNat ((b.drop 8).take 8) : Int) = v := ⟨_, rfl⟩
  rw [hv] at hrn
  rw [hrn]
  refine ⟨_, _, rfl, _, eqlS_nil hI none _ _, fun _ => (pkgood_spec v w2).mono ?_, fun h => by cases h⟩
  rintro e w3 ⟨rfl, rfl⟩
  refine ⟨_, rfl, v, goodP v, rfl, ?_, rfl⟩
  rw [headF, hrn]
  simp only [Option.getD_some]
  by_cases hg : goodP v = true
  · rw [if_pos ⟨hh.1, hh.2, hg⟩, if_pos hg]
  · rw [if_neg (fun h => hg h.2.2), if_neg hg]

theorem ends_spec (i : Nat) (g8 g9 : Nat) (a : Option Addr) (n c : Nat) (L : List FrD) (e : Nat) (w : World) (h8 : (Instr.loadAt 132 (.pointer (some ⟨g8, 0, none⟩))).run Tryz.prog w = .ok (.slice a n c) w) (h9 : (Instr.loadAt 3 (.pointer (some ⟨g9, 0, none⟩))).run Tryz.prog w = .ok (.int .i64 (e : Int)) w)
    (hr : RdFr w a n c L) (hi : i < n) (hn : n ≤ 1099511627776) (he : e ≤ 1099511627776) (hat : ∀ x ∈ L, x.at_ ≤ 1099511627776) :
    Calls Tryz.prog 89 #[.int .i64 (i : Int), .pointer (some ⟨g8, 0, none⟩), .pointer (some ⟨g9, 0, none⟩)] w fun r w' => r = .returned (.int .i64 ((16 + endF e ((L.map FrD.t).drop (i + 1)) : Nat) : Int)) ∧ w' = w := by
  have hln := hr.rd.num (by decide)
  apply pack_scanned_1_vc
  have e1 : IntKind.wrap .i64 ((i : Int) + 1) = ((i + 1 : Nat) : Int) := wrap_succ (by omega : i < n) (by omega)
  rw [e1]
  refine ⟨_, _, _, h8, fun h => ?_, fun h => ?_⟩
  · have hi' : i + 1 < n := by simp at h; omega
    have hx : L[i + 1]? = some L[i + 1] := List.getElem?_eq_getElem (by omega)
    obtain ⟨b, o, hab, q⟩ := hr.rd.fld (P := Tryz.prog) (by decide) inA (j := 2) hx rfl
    have hb := hat L[i + 1] (List.getElem_mem _)
    refine ⟨_, _, _, h8, b, o, hab, by omega, by omega, _, q w hr.rd, ?_, rfl⟩
    rw [wrap_i64 (by omega) (by omega)]
    have : (L.map FrD.t).drop (i + 1) = L[i + 1].t :: (L.map FrD.t).drop (i + 2) := by
      rw [List.drop_eq_getElem_cons (by simp; omega)]; simp
    rw [this]; simp [endF, FrD.t]
  · have hi' : i + 1 = n := by simp at h; omega
    refine ⟨_, h9, ?_, rfl⟩
    rw [wrap_i64 (by omega) (by omega), List.drop_of_length_le (by simp; omega)]
    simp [endF]

theorem ldId {b o c : Nat} {l : List UInt8} (h : RdB w (some ⟨b, o, none⟩) 32 c l) : (Instr.loadAt 44 (.pointer (some ⟨b, o, none⟩))).run Tryz.prog w = .ok (.agg (bv l).toArray) w := by
  have hl := h.lenB
  rcases h.cells with h0 | ⟨b', o', e, hr⟩
  · have h00 : (bv l).length = 0 := by rw [h0]; rfl
    rw [bv_length] at h00; omega
  · simp only [Option.some.injEq, Addr.mk.injEq, and_true] at e
    obtain ⟨rfl, rfl⟩ := e
    exact ldRange hr (idA' _) (idS' _) (by simp [hl])

set_option maxHeartbeats 1000000 in
theorem pkrefs_spec (num : Int) (hnum : OkI num) (a : Option Addr) (n c : Nat) (L : List FrD) (e g8 g9 : Nat) (w : World) (hr : RdFr w a n c L) (hn : n ≤ 1048576) (he : e ≤ 1099511627776) (hat : ∀ x ∈ L, x.at_ ≤ 1099511627776 ∧ x.body.length ≤ 1099511627776)
    (hE : ∀ (w' : World) (i : Nat), Chg [] w w' → i < n → Calls Tryz.prog 89 #[.int .i64 (i : Int), .pointer (some ⟨g8, 0, none⟩), .pointer (some ⟨g9, 0, none⟩)] w' fun r w'' => r = .returned (.int .i64 ((16 + endF e ((L.map FrD.t).drop (i + 1)) : Nat) : Int)) ∧ w'' = w') :
    Calls Tryz.prog 90 #[.int .i64 num, .slice a n c, .func (.func 89) #[] #[.pointer (some ⟨g8, 0, none⟩), .pointer (some ⟨g9, 0, none⟩)]] w fun r w' => ∃ ra rc, r = .returned (.slice ra (refsS num e (L.map FrD.t)).length rc) ∧
      St w [] w' [.row 75 35 (.slice ra (refsS num e (L.map FrD.t)).length rc) (refsS num e (L.map FrD.t)).length ((refsS num e (L.map FrD.t)).flatMap refC)] := by
  have hln := hr.rd.num (by decide)
  apply pack_refs_vc
  refine ⟨fun xa xn xc x w' => ∃ (i : Nat) (acc : List RefD), x = (i : Int) ∧ i ≤ n ∧ xn = acc.length ∧ acc.length ≤ i ∧ acc ++ refsS num e ((L.map FrD.t).drop i) = refsS num e (L.map FrD.t) ∧ St w [] w' [.row 75 35 (.slice xa xn xc) xn (acc.flatMap refC)], fun _ _ _ x _ => n - x.toNat, ⟨0, [], rfl, by omega, rfl, Nat.le_refl _, rfl, (St.start w).addNil _ _⟩, ?_⟩
  rintro xa xn xc x w1 ⟨i, acc, rfl, hi, rfl, hacc, hinv, h1⟩
  refine ⟨fun h => ?_, fun h => ?_⟩
  · have hi' : i < n := by simp at h; omega
    have hx : L[i]? = some L[i] := List.getElem?_eq_getElem (by omega)
    obtain ⟨x, hxx⟩ : ∃ x, L[i] = x := ⟨_, rfl⟩
    rw [hxx] at hx
    have hxm := List.mem_of_getElem? hx
    obtain ⟨hat1, hat2⟩ := hat x hxm
    have hdr : (L.map FrD.t).drop i = x.t :: (L.map FrD.t).drop (i + 1) := by
      rw [List.drop_eq_getElem_cons (by simp; omega)]; simp [hxx]
    rw [hdr] at hinv
    obtain ⟨b, o, hab, q⟩ := hr.rd.ld (P := Tryz.prog) (by decide) fmA fmS hx
    obtain ⟨g, w2, r2, h2⟩ := h1.zeroA fmZ
    obtain ⟨w3, r3, h3⟩ := h2.stA (i := 1) (v := frC x) rfl (fmS _) rfl rfl (frC_one _)
    have h3 : St w [] w3 [.row 75 35 (.slice xa acc.length xc) acc.length (acc.flatMap refC), .arr g 137 (frC x)] := h3
    have ldB : ∀ {w'}, St w [] w' [.arr g 137 (frC x)] → (Instr.loadAt 33 (.pointer (some ⟨g, 1, none⟩))).run Tryz.prog w' = .ok (.slice x.a x.body.length x.c) w' := fun h => h.ldL (i := 0) (o := 1) rfl (bsA' _) rfl rfl
    refine ⟨b, o, hab, by omega, by omega, _, q w1 (hr.rd.keep0 h1.chg), g, w2, r2, w3, r3, fun y w' => y = !decide (x.k = 2 ∧ 32 ≤ x.body.length) ∧ w' = w3, ⟨_, h3.ldL (i := 1) (o := 0) rfl (inA _) rfl rfl, fun hne => ?_, fun heq => ⟨_, _, _, ldB h3.tail, ?_, rfl⟩⟩, ?_⟩
    · have : x.k ≠ 2 := fun hk => by rw [hk] at hne; simp at hne
      exact ⟨by simp [this], rfl⟩
    · have h2n : (2 : UInt8).toNat = 2 := rfl
      have hk2 : x.k = 2 := UInt8.toNat_inj.1 (by simp at heq; omega)
      by_cases h32 : 32 ≤ x.body.length
      · rw [decide_eq_true (show x.k = 2 ∧ 32 ≤ x.body.length from ⟨hk2, h32⟩), decide_eq_false (by omega)]; rfl
      · rw [decide_eq_false (fun h : x.k = 2 ∧ 32 ≤ x.body.length => h32 h.2), decide_eq_true (by omega)]; rfl
    rintro y w4 ⟨rfl, rfl⟩
    refine ⟨fun hbad => ?_, fun hok => ?_⟩
    · have hb : ¬ (x.k = 2 ∧ 32 ≤ x.body.length) := ndT hbad
      have hz : refsS num e (x.t :: (L.map FrD.t).drop (i + 1)) = [] := if_neg hb
      rw [hz, List.append_nil] at hinv
      subst hinv
      exact ⟨xa, xc, rfl, h3.sub (List.sublist_append_left [_] [_])⟩
    have hk : x.k = 2 ∧ 32 ≤ x.body.length := ndF hok
    have h4 := h3.drew
    have hc4 := h4.chg
    have hB := hr.body x hxm
    obtain ⟨b2, o2, ha2⟩ : ∃ b o, x.a = some ⟨b, o, none⟩ := by
      rcases hB.cells with h0 | ⟨b, o, e, _⟩
      · have h00 : (bv x.body).length = 0 := by rw [h0]; rfl
        rw [bv_length] at h00; omega
      · exact ⟨b, o, e⟩
    have hcap := hB.le
    let S : World → Prop := fun w' => St w [] w' [.arr g 137 (frC x)]
    have ldI : ∀ w', S w' → (Instr.loadAt 44 (.pointer (some ⟨b2, o2, none⟩))).run Tryz.prog w' = .ok (.agg (bv (x.body.take 32)).toArray) w' := fun w' hw => by
      have h := rdB_upto (hB.keep0 (Sx.St.chg hw)) hk.2
      rw [ha2] at h
      exact ldId h
    have hid : (x.body.take 32).length = 32 := by simp; omega
    obtain ⟨r, hrr⟩ : ∃ r, mkRef (x.body.take 32) num (((16 + endF e ((L.map FrD.t).drop (i + 1)) : Nat) : Int) - ((x.body.length - 32 : Nat) : Int)) ((x.body.length - 32 : Nat) : Int) = r := ⟨_, rfl⟩
    have hend : endF e ((L.map FrD.t).drop (i + 1)) ≤ 1099511627776 := by
      cases hq : (L.map FrD.t).drop (i + 1) with
      | nil => exact he
      | cons f fs =>
        have : f ∈ L.map FrD.t := List.mem_of_mem_drop (by rw [hq]; simp)
        obtain ⟨z, hz, rfl⟩ := List.mem_map.1 this
        exact (hat z hz).1
    have eC := refC_mk hid hnum (q := ((16 + endF e ((L.map FrD.t).drop (i + 1)) : Nat) : Int) - ((x.body.length - 32 : Nat) : Int)) (n := ((x.body.length - 32 : Nat) : Int)) ⟨by omega, by omega⟩ ⟨by omega, by omega⟩
    rw [hrr] at eC
    have en : IntKind.wrap .i64 (((x.body.length : Nat) : Int) - 32) = ((x.body.length - 32 : Nat) : Int) := by rw [wrap_i64 (by omega) (by omega)]; omega
    have ee : IntKind.wrap .i64 (((16 + endF e ((L.map FrD.t).drop (i + 1)) : Nat) : Int) - ((x.body.length - 32 : Nat) : Int)) = ((16 + endF e ((L.map FrD.t).drop (i + 1)) : Nat) : Int) - ((x.body.length - 32 : Nat) : Int) := by rw [wrap_i64 (by omega) (by omega)]
    refine ⟨_, _, _, ldB h3.tail, S, h4.tail, _, _, _, fun w' hw => ldB hw, by omega, by omega, _, fun w' _ => by rw [ha2]; exact run_arrayAt _ 44 _ 32 _ 32 _ Tryz.underlying44 (Nat.le_refl _), _, ldI, _, _, rfl, by kernel_rfl, (hE _ i hc4 hi').mono ?_⟩
    rintro e5 w5 ⟨rfl, rfl⟩
    obtain ⟨g6, w6, va, vc, w7, r6, r7, h7, h6⟩ := h4.pushA (i := 0) (ty := 34) rfT rfl (refC r) (refC_len r) (by decide) (refC_one r) (by omega) (by simp only [maxLen]; omega)
    have h7 : St w [] w7 [.row 75 35 (.slice va (acc.length + 1) vc) (acc.length + 1) (acc.flatMap refC ++ refC r), .arr g 137 (frC x)] := h7
    refine ⟨_, rfl, S, fun _ h => h, h4.tail, _, fun w' hw => by rw [en, ee]; exact ref_parts _ num _ _ w' hid, _, _, _, w6, by rw [← eC]; exact r6, S, fun _ h => h, h6.tail, _, _, _, w7, r7, S, fun _ h => h, h7.tail, ⟨i + 1, acc ++ [r], wrap_succ hi' (by omega), by omega, by simp, by simp; omega, ?_, ?_⟩, mu_succ hi' (by omega)⟩
    · have hz : refsS num e (x.t :: (L.map FrD.t).drop (i + 1)) = r :: refsS num e ((L.map FrD.t).drop (i + 1)) := by rw [← hrr]; exact if_pos hk
      rw [← hinv, hz]
      simp
    · rw [List.flatMap_append]
      simpa using h7.sub (List.sublist_append_left [_] [_])
  · have hi' : i = n := by simp at h; omega
    rw [List.drop_of_length_le (by simp; omega)] at hinv
    have : acc = refsS num e (L.map FrD.t) := by rw [← hinv]; simp [refsS]
    subst this
    exact ⟨xa, xc, rfl, h1⟩

end

end Go.Proofs.YtmdandkoajocpaaGreatDoor
end

section
namespace Go.Proofs.YtmdandkoajocpaaGreatDoor
open Go Sx
set_option maxRecDepth 8000

def openP (K : List UInt8) (num : Int) (b : List UInt8) : Option Int × List RefD :=
  if goodP num = false then (some 28, [])
  else if headF b ≠ some num then (some 17, [])
  else if 16 + (framesL (b.drop 16)).2 ≠ b.length ∨ (framesL (b.drop 16)).1.length ≠ (refsS num (framesL (b.drop 16)).2 (framesL (b.drop 16)).1).length + 1 then (some 17, [])
  else if ((framesL (b.drop 16)).1.getD (refsS num (framesL (b.drop 16)).2 (framesL (b.drop 16)).1).length (0, [], 0)).1 ≠ 3 then (some 17, [])
  else match openF K 3 (numL (n64 num)) ((framesL (b.drop 16)).1.getD (refsS num (framesL (b.drop 16)).2 (framesL (b.drop 16)).1).length (0, [], 0)).2.1 with
    | none => (some 10, [])
    | some p => if p = footL (refsS num (framesL (b.drop 16)).2 (framesL (b.drop 16)).1) then (none, refsS num (framesL (b.drop 16)).2 (framesL (b.drop 16)).1) else (some 10, [])

section
variable {w0 w w' : World} {X : List Nat} {M N N' T : List Res}

theorem scanned_spec (num : Int) (hnum : OkI num) (a : Option Addr) (n c : Nat) (b : List UInt8) (w : World) (hr : RdB w a n c b) (h16 : 16 ≤ n) (hb : n ≤ 1048576) :
    Calls Tryz.prog 56 #[.int .i64 num, .slice a n c] w fun e w' => ∃ fa fn fc ra rc g8 g9 L, L.map FrD.t = (framesL (b.drop 16)).1 ∧ RdFr w' fa fn fc L ∧ Chg [] w w' ∧
      e = .returned (.tuple #[.slice fa fn fc, .slice ra (refsS num (framesL (b.drop 16)).2 (L.map FrD.t)).length rc, .func (.func 89) #[] #[.pointer (some ⟨g8, 0, none⟩), .pointer (some ⟨g9, 0, none⟩)], .int .i64 ((16 + (framesL (b.drop 16)).2 : Nat) : Int)]) ∧
      RdR w' ra (refsS num (framesL (b.drop 16)).2 (L.map FrD.t)).length rc (refsS num (framesL (b.drop 16)).2 (L.map FrD.t)) ∧
      ∀ (w2 : World) (i : Nat), Chg [] w' w2 → i < fn → Calls Tryz.prog 89 #[.int .i64 (i : Int), .pointer (some ⟨g8, 0, none⟩), .pointer (some ⟨g9, 0, none⟩)] w2 fun r w'' => r = .returned (.int .i64 ((16 + endF (framesL (b.drop 16)).2 ((L.map FrD.t).drop (i + 1)) : Nat) : Int)) ∧ w'' = w2 := by
  have hl := hr.lenB
  subst hl
  have hcap := hr.le
  apply pack_scanned_vc
  refine ⟨by omega, by omega, by omega, fun t hs => ?_⟩
  refine (frames_spec t (b.length - 16) (c - 16) (b.drop 16) w (rdB_drop13 hr hs h16) (by omega)).mono ?_
  rintro e w1 ⟨fa, fn, fc, vs, rfl, hO⟩
  obtain ⟨L, hL, hF⟩ := hO.list
  obtain ⟨b1, b2, b3⟩ := framesF_bound ((b.drop 16).length + 1) (b.drop 16) 0
  obtain ⟨E, hE⟩ : ∃ E, (framesF ((b.drop 16).length + 1) (b.drop 16) 0).2 = E := ⟨_, rfl⟩
  have hEE : (framesL (b.drop 16)).2 = E := hE
  have hLL : L.map FrD.t = (framesL (b.drop 16)).1 := hL
  rw [hE] at b1 ⊢
  rw [hEE]
  have hdl : (b.drop 16).length = b.length - 16 := by simp
  have hfn : L.length = fn := hF.rd.num (by decide)
  have hLl : L.length ≤ 1048576 := by have := congrArg List.length hL; rw [List.length_map] at this; omega
  have hat : ∀ x ∈ L, x.at_ ≤ 1099511627776 ∧ x.body.length ≤ 1099511627776 := fun x hx => by
    have := b2 x.t (by rw [← hL]; exact List.mem_map_of_mem hx)
    simp only [FrD.t] at this
    omega
  obtain ⟨g8, w2, r2, h2⟩ := (St.start w1).zero fsZ
  obtain ⟨g9, w3, r3, h3⟩ := h2.zero inZ
  obtain ⟨w4, r4, h4⟩ := h3.st (i := 0) (o := 0) (v := .slice fa fn fc) rfl (pfsS _) (by simp [Value.cells]) rfl
  obtain ⟨w5, r5, h5⟩ := h4.st (i := 1) (o := 0) (v := .int .i64 (E : Int)) rfl (inS' _) (by simp [Value.cells]) rfl
  have h5 : St w1 [] w5 [.blk g8 (.cells #[.slice fa fn fc] 132 (0, 0)), .blk g9 (.cells #[.int .i64 (E : Int)] 3 (0, 0))] := by simpa [Value.cells] using h5
  have ld8 : ∀ w', Chg [] w5 w' → (Instr.loadAt 132 (.pointer (some ⟨g8, 0, none⟩))).run Tryz.prog w' = .ok (.slice fa fn fc) w' := fun w' hc => (h5.same hc).ld (i := 0) rfl (pfsA _) rfl
  have ld9 : ∀ w', Chg [] w5 w' → (Instr.loadAt 3 (.pointer (some ⟨g9, 0, none⟩))).run Tryz.prog w' = .ok (.int .i64 (E : Int)) w' := fun w' hc => (h5.same hc).ld (i := 1) rfl (inA _) rfl
  have ends : ∀ (w' : World) (i : Nat), Chg [] w5 w' → i < fn → Calls Tryz.prog 89 #[.int .i64 (i : Int), .pointer (some ⟨g8, 0, none⟩), .pointer (some ⟨g9, 0, none⟩)] w' fun r w'' => r = .returned (.int .i64 ((16 + endF E ((L.map FrD.t).drop (i + 1)) : Nat) : Int)) ∧ w'' = w' := fun w' i hc hi =>
    ends_spec i g8 g9 fa fn fc L E w' (ld8 w' hc) (ld9 w' hc) ((hF.keep0 h5.chg).keep0 hc) hi (by omega) (by omega) fun x hx => (hat x hx).1
  have hD := Chg.drew [] w5
  have q5 : (Instr.makeFunc (.func 89) #[] #[.pointer (some ⟨g8, 0, none⟩), .pointer (some ⟨g9, 0, none⟩)]).run Tryz.prog w5 = .ok (.func (.func 89) #[] #[.pointer (some ⟨g8, 0, none⟩), .pointer (some ⟨g9, 0, none⟩)]) w5 := by simp [Instr.makeFunc]
  refine ⟨_, _, _, _, rfl, g8, w2, r2, g9, w3, r3, w4, r4, w5, r5, _, w5, q5, fun w' => Chg [] w5 w', hD, _, _, _, ld8, _, _, _, ld8, _, ld9, (pkrefs_spec num hnum fa fn fc L E g8 g9 w5.drew ((hF.keep0 h5.chg).keep0 hD) (by omega) (by omega) hat fun w' i hc hi => ends w' i (hD.trans hc) hi).mono ?_⟩
  rintro e w7 ⟨ra, rc, rfl, h7⟩
  have c7 : Chg [] w5 w7 := hD.trans h7.chg
  have ew : IntKind.wrap .i64 ((16 : Int) + (E : Int)) = ((16 + E : Nat) : Int) := by rw [wrap_i64 (by omega) (by omega)]; omega
  rw [ew]
  exact ⟨_, _, _, rfl, fun w' => Chg [] w5 w', fun _ h => h, c7, fa, fn, fc, ra, rc, g8, g9, L, hLL, (hF.keep0 h5.chg).keep0 c7, (hO.st.chg.trans h5.chg).trans c7, rfl, rdRefs h7 (i := 0) rfl, fun w2 i hc hi => ends w2 i (c7.trans hc) hi⟩

theorem bytesEq_spec (a : Option Addr) (n c : Nat) (l : List UInt8) (a2 : Option Addr) (n2 c2 : Nat) (m : List UInt8) (w : World) (h1 : RdB w a n c l) (h2 : RdB w a2 n2 c2 m) :
    Calls Tryz.prog 59 #[.slice a n c, .slice a2 n2 c2] w fun e w' => e = .returned (.bool (decide (l = m))) ∧ w' = w := by
  apply bytes_Equal_vc
  refine ⟨_, toStr bS bE sS h1.cells h1.lenB, _, toStr bS bE sS h2.cells h2.lenB, ?_, rfl⟩
  rw [ByteArray.toList_eq, ByteArray.toList_eq]
  show _ = Ending.returned (.bool (decide (l = m)))
  by_cases h : l = m
  · subst h; simp
  · rw [decide_eq_false h]
    have : (l == m) = false := beq_eq_false_iff_ne.2 h
    exact congrArg (fun b => Ending.returned (.bool b)) this

set_option maxHeartbeats 1000000 in
theorem pkopen_spec (K : List UInt8) (hk : K.length = 96) (num : Int) (a : Option Addr) (n c : Nat) (b : List UInt8) (w : World) (hK : KTab w) (hr : RdB w a n c b) (hb : n ≤ 1000000) :
    Calls Tryz.prog 26 #[.agg (bv K).toArray, .int .i64 num, .slice a n c] w fun e w' => ∃ ra rc, e = .returned (.tuple #[.slice ra (openP K num b).2.length rc, errV (openP K num b).1]) ∧ RdR w' ra (openP K num b).2.length rc (openP K num b).2 ∧ Chg [] w w' := by
  obtain ⟨mI, hI⟩ := eI
  have hl := hr.lenB
  subst hl
  apply pack_Open_vc
  obtain ⟨g3, w1, r1, k1⟩ := (St.start w).boxA (P := Tryz.prog) 28 (bv K)
  have nilR : ∀ w', RdR w' none 0 0 [] := fun w' => RdE.nil w'
  refine ⟨g3, w1, r1, (pkgood_spec num w1).mono ?_⟩
  rintro e w2 ⟨rfl, rfl⟩
  refine ⟨_, rfl, fun hbad => ?_, fun hg => ?_⟩
  · have : goodP num = false := by simpa using hbad
    have ho : openP K num b = (some 28, []) := by unfold openP; rw [if_pos this]
    rw [ho]; exact ⟨none, 0, rfl, nilR _, k1.chg⟩
  have hg : goodP num = true := by simpa using hg
  have hgi := goodP_iff.1 hg
  have hgn : ¬ goodP num = false := by rw [hg]; simp
  refine (head_spec a b.length c b w2 (hr.keep0 k1.chg)).mono ?_
  rintro e w3 ⟨x, ok, rfl, hh, rfl⟩
  refine ⟨_, _, rfl, fun hbad => ?_, fun hgood => ?_⟩
  · have hne : headF b ≠ some num := by
      rw [hh]
      cases ok with
      | false => simp
      | true =>
        intro h
        simp at h hbad
        exact hbad h
    have ho : openP K num b = (some 17, []) := by unfold openP; rw [if_neg hgn, if_pos hne]
    rw [ho]; exact ⟨none, 0, rfl, nilR _, k1.chg⟩
  have hhe : headF b = some num := by
    cases ok with
    | false => simp at hgood
    | true => simp at hgood; rw [hh, hgood]; rfl
  have h16 : 16 ≤ b.length := by
    rw [headF] at hhe
    split at hhe
    · rename_i h; exact h.1
    · cases hhe
  refine (scanned_spec num ⟨by omega, by omega⟩ a b.length c b w3 (hr.keep0 k1.chg) h16 (by omega)).mono ?_
  rintro e w4 ⟨fa, fn, fc, ra, rc, g8, g9, L, hL, hF, c4, rfl, hR, _⟩
  obtain ⟨E, hE⟩ : ∃ E, (framesL (b.drop 16)).2 = E := ⟨_, rfl⟩
  have hop : openP K num b = (show Option Int × List RefD from if 16 + E ≠ b.length ∨ (L.map FrD.t).length ≠ (refsS num E (L.map FrD.t)).length + 1 then (some 17, [])
      else if ((L.map FrD.t).getD (refsS num E (L.map FrD.t)).length (0, [], 0)).1 ≠ 3 then (some 17, [])
      else match openF K 3 (numL (n64 num)) ((L.map FrD.t).getD (refsS num E (L.map FrD.t)).length (0, [], 0)).2.1 with
        | none => (some 10, [])
        | some p => if p = footL (refsS num E (L.map FrD.t)) then (none, refsS num E (L.map FrD.t)) else (some 10, [])) := by
    unfold openP
    rw [if_neg hgn, if_neg (by rw [hhe]; simp), hL, hE]
  rw [hE] at hR ⊢
  obtain ⟨rs, hrs⟩ : ∃ rs, refsS num E (L.map FrD.t) = rs := ⟨_, rfl⟩
  have hfn : L.length = fn := hF.rd.num (by decide)
  have hrl : rs.length ≤ L.length := by rw [← hrs]; simpa using refsS_len num E (L.map FrD.t)
  rw [hrs] at hop hR ⊢
  have hml : (L.map FrD.t).length = fn := by rw [List.length_map, hfn]
  rw [hml] at hop
  have hLb : L.length ≤ 1000000 := by
    have h3 := (framesF_bound ((b.drop 16).length + 1) (b.drop 16) 0).2.2
    have := congrArg List.length hL
    rw [List.length_map] at this
    have hd : (framesL (b.drop 16)).1.length ≤ (b.drop 16).length := h3
    simp only [List.length_drop] at hd
    omega
  have ew : IntKind.wrap .i64 (((rs.length : Nat) : Int) + 1) = ((rs.length + 1 : Nat) : Int) := by rw [wrap_i64 (by omega) (by omega)]; omega
  have k4 := (k1.same c4)
  refine ⟨_, _, _, _, _, _, _, _, rfl, ?_⟩
  rw [ew]
  refine ⟨fun y w' => y = !decide ((16 + E = b.length ∧ fn = rs.length + 1) ∧ ((L.map FrD.t).getD rs.length (0, [], 0)).1 = 3) ∧ w' = w4, ⟨fun hbad => ?_, fun hgood => ?_⟩, ?_⟩
  · have : ¬ (16 + E = b.length ∧ fn = rs.length + 1) := by
      rintro ⟨h1, h2⟩
      rw [h1, h2] at hbad
      simp at hbad
    exact ⟨by simp [this], rfl⟩
  · have h12 : 16 + E = b.length ∧ fn = rs.length + 1 := by
      simp only [Bool.or_eq_false_iff, bne_eq_false_iff_eq] at hgood
      omega
    have hx : L[rs.length]? = some L[rs.length] := List.getElem?_eq_getElem (by omega)
    obtain ⟨x, hxx⟩ : ∃ x, L[rs.length] = x := ⟨_, rfl⟩
    rw [hxx] at hx
    obtain ⟨bb, o, hab, q⟩ := hF.rd.fld (P := Tryz.prog) (by decide) inA (j := 0) hx rfl
    have hgd : (L.map FrD.t).getD rs.length (0, [], 0) = x.t := by rw [List.getD_eq_getElem?_getD, List.getElem?_map, hx]; rfl
    refine ⟨bb, o, hab, by omega, by omega, _, q w4 hF.rd, ?_, rfl⟩
    rw [hgd]
    have h3 : (3 : UInt8).toNat = 3 := rfl
    by_cases hk3 : x.k = 3
    · rw [decide_eq_true (show (16 + E = b.length ∧ fn = rs.length + 1) ∧ x.t.1 = 3 from ⟨h12, hk3⟩), hk3]; rfl
    · rw [decide_eq_false (fun h : (16 + E = b.length ∧ fn = rs.length + 1) ∧ x.t.1 = 3 => hk3 h.2)]
      have : (x.k.toNat : Int) ≠ 3 := fun h => hk3 (UInt8.toNat_inj.1 (by omega))
      simpa using this
  rintro y w5 ⟨rfl, rfl⟩
  refine ⟨fun hbad => ?_, fun hgood => ?_⟩
  · have hb := ndT hbad
    have ho : openP K num b = (some 17, []) := by
      rw [hop]
      by_cases h12 : 16 + E = b.length ∧ fn = rs.length + 1
      · have h3 : ((L.map FrD.t).getD rs.length (0, [], 0)).1 ≠ 3 := fun h => hb ⟨h12, h⟩
        rw [if_neg (by omega), if_pos h3]
      · rw [if_pos (by omega)]
    rw [ho]; exact ⟨none, 0, rfl, nilR _, k1.chg.trans c4⟩
  have hgd := ndF hgood
  obtain ⟨⟨h1, h2⟩, h3⟩ := hgd
  rw [if_neg (by omega), if_neg (by simpa using h3)] at hop
  have hx : L[rs.length]? = some L[rs.length] := List.getElem?_eq_getElem (by omega)
  obtain ⟨x, hxx⟩ : ∃ x, L[rs.length] = x := ⟨_, rfl⟩
  rw [hxx] at hx
  have hgd : (L.map FrD.t).getD rs.length (0, [], 0) = x.t := by rw [List.getD_eq_getElem?_getD, List.getElem?_map, hx]; rfl
  rw [hgd] at hop
  have hop : openP K num b = (match openF K 3 (numL (n64 num)) x.body with
        | none => ((some 10, []) : Option Int × List RefD)
        | some p => if p = footL rs then (none, rs) else (some 10, [])) := hop
  have hxb := hF.body x (List.mem_of_getElem? hx)
  have hxl : x.body.length ≤ 1000000 := by
    have hm : x.t ∈ (framesL (b.drop 16)).1 := by rw [← hL]; exact List.mem_map_of_mem (List.mem_of_getElem? hx)
    have := ((framesF_bound ((b.drop 16).length + 1) (b.drop 16) 0).2.1 x.t hm).2
    simp only [FrD.t, List.length_drop] at this
    omega
  obtain ⟨bb, o, hab, q⟩ := hF.rd.fld (P := Tryz.prog) (by decide) bsA' (j := 1) hx rfl
  have hD := Chg.drew [] w5
  let S : World → Prop := fun w' => Chg [] w5 w'
  refine ⟨S, hD, bb, o, hab, by omega, by omega, _, fun w' hw => (k4.same hw).ldA (i := 0) (l := bv K) rfl (kyA' _) (kyS' _) (by simp [hk]), _, _, _, fun w' hw => q w' (hF.rd.keep0 hw), (num_bytes' num _).mono ?_⟩
  rintro e w6 ⟨a6, c6, rfl, hf6⟩
  have d6 : Chg [] w5 w6 := hD.trans hf6.1
  refine ⟨_, _, _, rfl, S, fun _ h => h, d6, (open_spec K 3 a6 8 c6 (numL (n64 num)) x.a x.body.length x.c x.body w6 hk (((hK.keep0 k1.chg).keep0 c4).keep0 d6) hf6.rdB (hxb.keep0 d6) (by omega)).mono ?_⟩
  rintro e w7 ⟨a7, n7, c7, rfl, hf7⟩
  have d7 : Chg [] w5 w7 := d6.trans hf7.1
  have hc7 : Chg [] w w7 := (k1.chg.trans c4).trans d7
  rw [openE] at *
  refine ⟨_, _, _, _, rfl, S, fun _ h => h, d7, _, neqS_nil hI _ _ _, fun hbad => ?_, fun hgood => ?_⟩
  · cases ho : openF K 3 (numL (n64 num)) x.body with
    | none =>
      rw [ho] at hop
      rw [hop]; exact ⟨none, 0, rfl, nilR _, hc7⟩
    | some p => rw [ho] at hbad; simp at hbad
  cases ho : openF K 3 (numL (n64 num)) x.body with
  | none => rw [ho] at hgood; simp at hgood
  | some p =>
    rw [ho] at hop hf7
    refine (footPlain_spec ra rs.length rc rs w7 (hR.keep0 d7) (by omega)).mono ?_
    rintro e w8 ⟨a8, n8, c8, rfl, hf8⟩
    refine ⟨_, _, _, rfl, (bytesEq_spec a7 n7 c7 p a8 n8 c8 (footL rs) w8 (hf7.rdB.keep0 hf8.1) hf8.rdB).mono ?_⟩
    rintro e w9 ⟨rfl, rfl⟩
    have hop : openP K num b = if p = footL rs then (none, rs) else (some 10, []) := hop
    refine ⟨_, rfl, fun hbad => ?_, fun hgood => ?_⟩
    · rw [if_neg (ndT hbad)] at hop
      rw [hop]; exact ⟨none, 0, rfl, nilR _, hc7.trans hf8.1⟩
    · rw [if_pos (ndF hgood)] at hop
      rw [hop]; exact ⟨ra, rc, rfl, (hR.keep0 d7).keep0 hf8.1, hc7.trans hf8.1⟩

end

end Go.Proofs.YtmdandkoajocpaaGreatDoor
end

section
namespace Go.Proofs.YtmdandkoajocpaaGreatDoor
open Go Sx
set_option maxRecDepth 8000

theorem ofNat8 {n : Nat} (h : n < 256) : (UInt8.ofNat n).toNat = n := by rw [UInt8.toNat_ofNat']; exact Nat.mod_eq_of_lt h

theorem rdVar_varL : ∀ (f m i n : Nat) (r : List UInt8), m < 128 ^ f → (m ≠ 0 ∨ i = 0) → 0 < f → rdVar f (varL m ++ r) i n = some (n + m * 128 ^ i, i + (varL m).length)
  | 0, _, _, _, _, _, _, h => by omega
  | f + 1, m, i, n, r, hm, h0, _ => by
    have hp : 128 ^ (f + 1) = 128 ^ f * 128 := Nat.pow_succ ..
    by_cases h : m < 128
    · rw [varL_small h]
      simp only [List.cons_append, List.nil_append, rdVar, ofNat8 (show m < 256 by omega), if_pos h, List.length_cons, List.length_nil, Nat.zero_add]
      rw [if_neg (by omega)]
    · have hf : 0 < f := by
        rcases Nat.eq_zero_or_pos f with rfl | h' 
        · simp at hm; omega
        · exact h'
      have hq : m / 128 < 128 ^ f := Nat.div_lt_of_lt_mul (by rw [Nat.mul_comm]; omega)
      have ih := rdVar_varL f (m / 128) (i + 1) (n + m % 128 * 128 ^ i) r hq (.inl (by omega)) hf
      rw [varL_big h]
      simp only [List.cons_append, rdVar, ofNat8 (show m % 128 + 128 < 256 by omega)]
      rw [if_neg (by omega), Nat.add_sub_cancel, ih]
      have e : n + m % 128 * 128 ^ i + m / 128 * 128 ^ (i + 1) = n + m * 128 ^ i := by
        have h1 : 128 ^ (i + 1) = 128 * 128 ^ i := by rw [Nat.pow_succ, Nat.mul_comm]
        rw [h1, ← Nat.mul_assoc, Nat.add_assoc, ← Nat.add_mul]
        congr 2
        omega
      rw [e, List.length_cons]
      congr 2
      omega

theorem readVar_varL {m : Nat} (h : m < 9223372036854775808) (r : List UInt8) : readVarF (varL m ++ r) = some (m, (varL m).length) := by
  rw [readVarF, rdVar_varL 9 m 0 0 r (by simpa using h) (.inr rfl) (by decide)]
  simp

theorem beNat_numL (u : Nat) (h : u < 18446744073709551616) : beNat (numL u) = u := by
  have key : ∀ k, k ≤ 8 → beNat ((List.range k).map fun j => UInt8.ofNat (u / 256 ^ (7 - j) % 256)) = u / 256 ^ (8 - k) := by
    intro k
    induction k with
    | zero => intro _; simp [beNat]; exact (Nat.div_eq_of_lt h).symm
    | succ k ih =>
      intro hk
      rw [List.range_succ, List.map_append, List.map_cons, List.map_nil, beNat_snoc, ih (by omega), ofNat8 (Nat.mod_lt _ (by decide)), show 8 - k = (7 - k) + 1 by omega, show 8 - (k + 1) = 7 - k by omega, Nat.pow_succ, ← Nat.div_div_eq_div_mul]
      omega
  have := key 8 (by decide)
  simpa [numL] using this

theorem readNum_numL (x : Int) (h1 : -9223372036854775808 ≤ x) (h2 : x ≤ 9223372036854775807) : readNumF (numL (x % 18446744073709551616).toNat) = some x := by
  rw [readNumF, if_pos (numL_len _), beNat_numL _ (by omega), Int.toNat_of_nonneg (by omega), wrap_i64_of]
  congr 1
  split <;> omega

theorem fieldF_pack {f : List UInt8} (h : f.length ≤ 67108864) (r : List UInt8) : fieldF (varL f.length ++ f ++ r) = some (f, r) := by
  rw [List.append_assoc, fieldF, readVar_varL (by omega)]
  simp only [Option.bind_some]
  rw [if_pos ⟨h, by simp; omega⟩]
  have e1 : (varL f.length ++ (f ++ r)).drop (varL f.length).length = f ++ r := by simp
  have e2 : (varL f.length ++ (f ++ r)).drop ((varL f.length).length + f.length) = r := by
    rw [← List.drop_drop, e1]; simp
  rw [e1, e2]; simp

end Go.Proofs.YtmdandkoajocpaaGreatDoor
end

section
namespace Go.Proofs.YtmdandkoajocpaaGreatDoor
open Go Sx
set_option maxRecDepth 8000

theorem frameF_app {k : UInt8} {b : List UInt8} (h : b.length ≤ 67108864) (r : List UInt8) : frameF (frameL k b ++ r) = some (k, b, r) := by
  have h1 := fieldF_pack h r
  have e : frameL k b ++ r = k :: (varL b.length ++ b ++ r) := by simp [frameL]
  rw [e]
  simp only [frameF, h1]; rfl
theorem framesF_none {l : List UInt8} (h : frameF l = none) (f p : Nat) : framesF f l p = ([], p) := by
  cases f with
  | zero => rfl
  | succ f => simp [framesF, h]

abbrev Fr2 := UInt8 × List UInt8
def frsL (xs : List Fr2) : List UInt8 := (xs.map fun x => frameL x.1 x.2).flatten
def frsAt : Nat → List Fr2 → List Frm
  | _, [] => []
  | p, x :: r => (x.1, x.2, p) :: frsAt (p + (frameL x.1 x.2).length) r
theorem frsAt_len : ∀ (xs : List Fr2) (p : Nat), (frsAt p xs).length = xs.length
  | [], _ => rfl
  | x :: r, p => by simp [frsAt, frsAt_len r]
theorem framesF_app : ∀ (xs : List Fr2) (f p : Nat) (t : List UInt8), (∀ x ∈ xs, x.2.length ≤ 67108864) → xs.length ≤ f → framesF f (frsL xs ++ t) p = (frsAt p xs ++ (framesF (f - xs.length) t (p + (frsL xs).length)).1, (framesF (f - xs.length) t (p + (frsL xs).length)).2)
  | [], f, p, t, _, _ => by simp [frsL, frsAt]
  | x :: r, 0, p, t, _, h => by simp at h
  | x :: r, f + 1, p, t, hx, h => by
    have ih := framesF_app r f (p + (frameL x.1 x.2).length) t (fun y hy => hx y (by simp [hy])) (by simpa using h)
    have e : frsL (x :: r) ++ t = frameL x.1 x.2 ++ (frsL r ++ t) := by simp [frsL]
    rw [e, framesF, frameF_app (hx x (by simp))]
    have el : (frameL x.1 x.2 ++ (frsL r ++ t)).length - (frsL r ++ t).length = (frameL x.1 x.2).length := by simp
    simp only [el, ih]
    have e2 : f + 1 - (x :: r).length = f - r.length := by simp
    have e3 : p + (frsL (x :: r)).length = p + (frameL x.1 x.2).length + (frsL r).length := by simp [frsL]; omega
    rw [e2, e3]
    simp [frsAt]

def fr2 (x : Itm) : Fr2 := (2, x.1 ++ x.2)
theorem frsL_items (xs : List Itm) : frsL (xs.map fr2) = (xs.map frmT).flatten := by simp only [frsL, List.map_map]; rfl
theorem refsS_items (num : Int) (e : Nat) (rest : List Frm) : ∀ (xs : List Itm) (p : Nat), (∀ x ∈ xs, x.1.length = 32) → endF e rest = p + (frsL (xs.map fr2)).length → refsS num e (frsAt p (xs.map fr2) ++ rest) = refsP num (16 + p) xs ++ refsS num e rest
  | [], p, _, _ => rfl
  | x :: r, p, h, he => by
    have hx := h x (by simp)
    have el : (frsL ((x :: r).map fr2)).length = (frmT x).length + (frsL (r.map fr2)).length := by simp [frsL, fr2, frmT]
    have ih := refsS_items num e rest r (p + (frmT x).length) (fun y hy => h y (by simp [hy])) (by rw [he, el]; omega)
    have hend : endF e (frsAt (p + (frmT x).length) (r.map fr2) ++ rest) = p + (frmT x).length := by
      cases r with
      | nil => simpa [frsAt, frsL, fr2, frmT] using he
      | cons y r => rfl
    show refsS num e ((2, x.1 ++ x.2, p) :: (frsAt (p + (frameL 2 (x.1 ++ x.2)).length) (r.map fr2) ++ rest)) = _
    have e0 : (frameL 2 (x.1 ++ x.2)).length = (frmT x).length := rfl
    rw [e0, refsS, if_pos ⟨rfl, by simp [hx]⟩, hend, ih]
    have e1 : (x.1 ++ x.2).take 32 = x.1 := List.take_left' hx
    have e2 : (x.1 ++ x.2).length - 32 = x.2.length := by simp [hx]
    simp only [e1, e2, refsP, List.cons_append]
    rw [show 16 + (p + (frmT x).length) = 16 + p + (frmT x).length by omega]

theorem refsS_stop (num : Int) (e : Nat) {k : UInt8} (hk : k ≠ 2) (b : List UInt8) (p : Nat) (r : List Frm) : refsS num e ((k, b, p) :: r) = [] := if_neg fun h => hk h.1

theorem n64_eq {num : Int} (hg : goodP num = true) : readNumF (numL (n64 num)) = some num := by
  have h := goodP_iff.1 hg
  exact readNum_numL num (by omega) (by omega)
def footBody (K : List UInt8) (num : Int) (xs : List Itm) : List UInt8 := sealF K 3 (numL (n64 num)) (footL (refsP num 16 xs))
def framesP (K : List UInt8) (num : Int) (xs : List Itm) : List Fr2 := xs.map fr2 ++ [(3, footBody K num xs)]
theorem buildP_eq (K : List UInt8) (num : Int) (xs : List Itm) : buildP K num xs = headP num ++ frsL (framesP K num xs) := by
  have h : frsL (framesP K num xs) = frsL (xs.map fr2) ++ footP K num (refsP num 16 xs) := by simp [framesP, frsL, footP, footBody]
  rw [h, frsL_items]
  simp [buildP, piecesP]
theorem head_cut {num : Int} (hg : goodP num = true) (l : List UInt8) : headF (headP num ++ l) = some num := by
  have e1 : (headP num ++ l).take 8 = magicL := by
    rw [headP, List.append_assoc, List.take_append_of_le_length (by decide)]; rfl
  have e2 : ((headP num ++ l).drop 8).take 8 = numL (n64 num) := by
    rw [headP, List.append_assoc, List.drop_left' (by rfl), List.take_left' (numL_len _)]
  rw [headF, e1, e2, n64_eq hg, if_pos ⟨by simp, rfl, by simpa using hg⟩]

theorem framesP_small (K : List UInt8) (num : Int) {xs : List Itm} (hs : SmallI xs) : ∀ x ∈ framesP K num xs, x.2.length ≤ 67108864 := by
  intro x hx
  rcases List.mem_append.1 hx with hx | hx
  · obtain ⟨y, hy, rfl⟩ := List.mem_map.1 hx
    have h1 := hs.blob hy
    have h2 := hs.idl y hy
    simp only [fr2, List.length_append]; omega
  · simp only [List.mem_singleton] at hx
    subst hx
    have h2 := hs.num
    simp only [footBody]
    rw [sealF_len _ _ _ _ (by rw [footL_len, refsP_len]; omega), footL_len, refsP_len]
    omega

theorem open_build (K : List UInt8) {num : Int} (hg : goodP num = true) {xs : List Itm} (hs : SmallI xs) : openP K num (buildP K num xs) = (none, refsP num 16 xs) := by
  have hsm := framesP_small K num hs
  have hfb : (footBody K num xs).length ≤ 67108864 := hsm (3, footBody K num xs) (by simp [framesP])
  have hnum := hs.num
  have hd : (buildP K num xs).drop 16 = frsL (framesP K num xs) := by rw [buildP_eq, List.drop_left' (headP_len _)]
  have hlen : ∀ zs : List Fr2, zs.length ≤ (frsL zs).length := by
    intro zs
    induction zs with
    | nil => simp
    | cons z zs ih => simp only [frsL, List.map_cons, List.flatten_cons, List.length_append, List.length_cons, frameL] at *; omega
  obtain ⟨P, hP⟩ : ∃ P, (frsL (xs.map fr2)).length = P := ⟨_, rfl⟩
  have hfl : framesL (frsL (framesP K num xs)) = (frsAt 0 (xs.map fr2) ++ [(3, footBody K num xs, P)], (frsL (framesP K num xs)).length) := by
    have h1 := hlen (framesP K num xs)
    have := framesF_app (framesP K num xs) ((frsL (framesP K num xs)).length + 1) 0 [] hsm (by omega)
    rw [List.append_nil, framesF_none (show frameF [] = none from rfl)] at this
    rw [framesL, this]
    have : ∀ (zs : List Fr2) (p : Nat) (y : Fr2), frsAt p (zs ++ [y]) = frsAt p zs ++ [(y.1, y.2, p + (frsL zs).length)] := by
      intro zs
      induction zs with
      | nil => intro p y; simp [frsAt, frsL]
      | cons z zs ih =>
        intro p y
        simp only [List.cons_append, frsAt, ih]
        have : p + (frameL z.1 z.2).length + (frsL zs).length = p + (frsL (z :: zs)).length := by simp [frsL]; omega
        rw [this]
    rw [framesP, this, hP]
    simp
  have href : refsS num (frsL (framesP K num xs)).length (frsAt 0 (xs.map fr2) ++ [(3, footBody K num xs, P)]) = refsP num 16 xs := by
    rw [refsS_items num _ _ xs 0 hs.idl (by simp [endF, hP]), refsS_stop num _ (by decide), List.append_nil]
  have hat : (frsAt 0 (xs.map fr2) ++ [(3, footBody K num xs, P)]).getD (refsP num 16 xs).length (0, [], 0) = (3, footBody K num xs, P) := by
    rw [List.getD_eq_getElem?_getD, List.getElem?_append_right (by rw [frsAt_len, refsP_len]; simp), frsAt_len, refsP_len]
    simp
  have hop := open_sealF K 3 (numL (n64 num)) (footL (refsP num 16 xs)) (by rw [footL_len, refsP_len]; omega)
  unfold openP
  rw [hd, hfl]
  simp only [href, hat]
  rw [if_neg (by rw [hg]; simp), buildP_eq, head_cut hg, if_neg (by simp), if_neg (by simp [frsAt_len, refsP_len]), if_neg (by simp)]
  have : openF K 3 (numL (n64 num)) (footBody K num xs) = some (footL (refsP num 16 xs)) := hop
  rw [this]
  simp

theorem open_other_num (K : List UInt8) {num n2 : Int} (hg : goodP num = true) (hg2 : goodP n2 = true) (hne : num ≠ n2) (xs : List Itm) : openP K n2 (buildP K num xs) = (some 17, []) := by
  unfold openP
  rw [if_neg (by rw [hg2]; simp), buildP_eq, head_cut hg, if_pos (by simpa using hne)]

end Go.Proofs.YtmdandkoajocpaaGreatDoor
end

section
namespace Go.Proofs.YtmdandkoajocpaaGreatDoor
open Go Sx
set_option maxRecDepth 8000

theorem d32B (w : World) : (Instr.build 22 #[]).run Tryz.prog w = .ok (.agg (bv (List.replicate 32 0)).toArray) w := by
  have := build_arr (P := Tryz.prog) (w := w) (T := 22) (d32Z w) Tryz.underlying22 (sB1 w) [] (by simp) (by simp)
  simpa using this

theorem rderived_spec (a0 : Option Addr) (n0 c0 : Nat) (salt : List UInt8) (a1 : Option Addr) (n1 c1 : Nat) (secret : List UInt8) (s : ByteArray) (info : List UInt8) (w : World) (hs : s = ⟨info.toArray⟩) (hr0 : RdB w a0 n0 c0 salt) (hr1 : RdB w a1 n1 c1 secret) (hb : n0 + n1 + info.length ≤ 1099511627776) :
    Calls Tryz.prog 37 #[.slice a0 n0 c0, .slice a1 n1 c1, .string s] w fun e w' => e = .returned (.agg (bv (der32 salt secret info)).toArray) ∧ Chg [] w w' := by
  apply amphoraref05_derived_vc
  obtain ⟨D, hD⟩ : ∃ D, der32 salt secret info = D := ⟨_, rfl⟩
  have hDl : D.length = 32 := by rw [← hD]; simp
  obtain ⟨g6, w1, r1, h1⟩ := (St.start w).zeroA d32Z
  obtain ⟨g7, w2, r2, h2⟩ := h1.zeroA d32Z
  obtain ⟨w3, r3, h3⟩ := h2.stA (i := 1) (v := bv (mixG D (List.replicate 32 0) 0)) rfl (d32S _) (by simp) (by rw [mixG_zero]; simp) (bv_one _)
  rw [mixG_zero] at r3
  obtain ⟨g4, c4, w4, r4, hc4, hr4, _⟩ := toBytes s info hs w3
  have h4 := h3.same hc4
  refine ⟨g6, w1, r1, _, d32B _, g7, w2, r2, w3, r3, _, _, _, _, r4, (rderive_specN a0 n0 c0 salt a1 n1 c1 secret _ info.length c4 info 32 w4 (h4.rd1 hr0) (h4.rd1 hr1) hr4 hb).mono ?_⟩
  rintro e w5 (⟨hx, _⟩ | ⟨_, _, a, n, c, rfl, hc5, hr5, hf5⟩)
  · omega
  have hd : deriveF salt secret info (Int.toNat 32) = der32 salt secret info := rfl
  rw [hd, hD] at hr5
  rw [hD]
  have hn : n = 32 := by rw [← hr5.lenB, hDl]
  subst hn
  have h5 := h4.same hc5
  have hg7 : g7 < w4.heap.size := Res.lt (h4.holds 1 _ rfl) g7 (by simp [Res.fp])
  refine ⟨_, _, _, _, rfl, fun x w' => ∃ i : Nat, x = (i : Int) ∧ i ≤ 32 ∧ RdB w' a 32 c D ∧ St w [] w' [.arr g6 22 (bv (List.replicate 32 0)), .arr g7 22 (bv (mixG D (List.replicate 32 0) i))], fun x _ => 32 - x.toNat, ⟨0, rfl, by omega, hr5, h5⟩, ?_⟩
  rintro x w6 ⟨i, rfl, hi, hr6, h6⟩
  refine ⟨fun h => ?_, fun h => ?_⟩
  · have hi' : i < 32 := by simp at h; omega
    refine ix0 hr6.cells hDl i (by omega) fun bl o ha q => ⟨bl, o, ha, by omega, by omega, _, q w6 hr6.cells, by omega, by omega, ?_⟩
    have hbi : D[i]? = some (D.getD i 0) := by
      rw [List.getD, List.getElem?_eq_getElem (by omega)]
      rfl
    have hml : (mixG D (List.replicate 32 (0 : UInt8)) i).length = 32 := by simp [mixG]; omega
    have h6s := h6.self
    obtain ⟨w7, r7, h7⟩ := h6.stB (i := 1) (o := i) (T := 5) (b := D.getD i 0) rfl (sB1 _) (show 0 + Int.toNat (i : Int) * 1 = i by omega) (by omega)
    obtain ⟨w7', r7', h7'⟩ := (St.ofBlk (h6.holds 1 _ rfl)).stB (i := 0) (o := i) (T := 5) (l := mixG D (List.replicate 32 (0 : UInt8)) i) (b := D.getD i 0) rfl (sB1 _) (show 0 + Int.toNat (i : Int) * 1 = i by omega) (by omega)
    have ew : w7' = w7 := by
      have := r7'.symm.trans r7
      simp only [Result.ok.injEq, true_and] at this
      exact this
    rw [mixG_set (by rw [hDl, List.length_replicate]) hbi] at h7
    refine ⟨w7, r7, ⟨i + 1, wrap_succ hi' (by omega), by omega, ?_, h7⟩, mu_succ hi' (by omega)⟩
    rw [ew] at h7'
    refine hr6.keep h7'.chg fun ad e => ?_
    have := hf5 ad e
    simp
    omega
  · have hi' : i = 32 := by simp at h; omega
    have f1 : mixG D (List.replicate 32 (0 : UInt8)) i = D := by
      have := mixG_all (x := D) (l := List.replicate 32 (0 : UInt8)) (by rw [hDl, List.length_replicate])
      rw [List.length_replicate] at this; rw [hi', this]
    rw [f1] at h6
    obtain ⟨w8, r8, h8⟩ := h6.stA (i := 0) (v := bv D) rfl (d32S _) (by simp) (by simp [hDl]) (bv_one _)
    exact ⟨_, h6.ldA (i := 1) rfl (d32A _) (d32S _) (by simp [hDl]), w8, r8, _, h8.ldVarA (i := 0) (l := bv D) rfl (d32A _) (d32S _) (by simp [hDl]), rfl, h8.chg⟩

theorem rfromMaster_spec (m : List UInt8) (w : World) (hm : m.length = 32) :
    Calls Tryz.prog 9 #[.agg (bv m).toArray] w fun e w' => e = .returned (.agg (bv (masterF m)).toArray) ∧ Chg [] w w' := by
  apply amphoraref05_FromMaster_vc
  obtain ⟨g1, w1, r1, h1⟩ := (St.start w).boxA 22 (bv m)
  obtain ⟨g2, w2, r2, h2⟩ := h1.zeroA kyZ
  obtain ⟨g3, w3, w4, r3, r4, c4, hr4⟩ := litMark amphL (by decide) w2
  have h4 := (h2.same c4).drew
  have hd := Chg.drew [] w4
  have dd : ∀ w' (i : List UInt8) (s : ByteArray), s = ⟨i.toArray⟩ → i.length ≤ 1000 → Chg [] w4.drew w' → Calls Tryz.prog 37 #[.slice (some ⟨g3, 0, none⟩) 7 7, .slice (some ⟨g1, 0, none⟩) 32 32, .string s] w' fun e w'' => e = .returned (.agg (bv (der32 amphL m i)).toArray) ∧ Chg [] w' w'' := fun w' i s hs hi hc =>
    rderived_spec _ 7 7 amphL _ 32 32 m s i w' hs (hr4.keep0 (hd.trans hc)) ((h4.same hc).rdA (i := 0) rfl (by simp [hm])) (by omega)
  refine ⟨g1, w1, r1, g2, w2, r2, _, _, _, _, r3, _, _, _, _, r4, fun w' => Chg [] w4.drew w', Chg.refl _ _, by omega, by omega, by omega, by omega, by omega, by omega, (dd _ [99, 105, 112, 104, 101, 114] _ rfl (by decide) (Chg.refl _ _)).mono ?_⟩
  rintro e w5 ⟨rfl, c5⟩
  refine ⟨_, rfl, fun w' => Chg [] w4.drew w', fun _ h => h, c5, (dd _ [109, 97, 99] _ rfl (by decide) c5).mono ?_⟩
  rintro e w6 ⟨rfl, c6⟩
  have d6 := c5.trans c6
  refine ⟨_, rfl, fun w' => Chg [] w4.drew w', fun _ h => h, d6, (dd _ [110, 97, 109, 101] _ rfl (by decide) d6).mono ?_⟩
  rintro e w7 ⟨rfl, c7⟩
  have d7 := d6.trans c7
  obtain ⟨w8, r8, h8⟩ := (h4.same d7).stA (i := 1) (v := bv (masterF m)) rfl (kyS _) (by simp) (by simp) (bv_one _)
  exact ⟨_, rfl, fun w' => Chg [] w4.drew w', fun _ h => h, d7, _, fun w' _ => keys_build (der32_len _ _ _) (der32_len _ _ _) (der32_len _ _ _) w', w8, r8, _, h8.ldVarA (i := 1) (l := bv (masterF m)) rfl (kyA _) (kyS _) (by simp), rfl, h8.chg⟩

end Go.Proofs.YtmdandkoajocpaaGreatDoor
end

section
namespace Go.Proofs.YtmdandkoajocpaaGreatDoor
open Go Go.Proofs.YtmdandkoajocpaaGreatDoor.Sx

set_option maxRecDepth 100000 in
theorem amphoralaw13_alive_vc  (w : World) (R : Ending → World → Prop) (h :
  ∃ (t8 : Array Value), (Instr.build 22 #[(0, (.int .u8 9))]).run Tryz.prog w = .ok (.agg t8) w ∧
  (Calls Tryz.prog 9 #[(.agg t8)] w fun (e9 : Ending) (w1 : World) => ∃ (t9 : Array Value), e9 = .returned (.agg t9) ∧
    (∃ (g1 : Nat) (w2 : World), (Instr.alloc 28 true (.tuple #[])).run Tryz.prog w1 = .ok (.pointer (some ⟨g1, 0, none⟩)) w2 ∧
      (∃ w3 : World, (Instr.storeAt 28 (.pointer (some ⟨g1, 0, none⟩)) (.agg t9)).run Tryz.prog w2 = .ok () w3 ∧
        (∃ (t11 : Array Value), (Instr.loadAt 28 (.pointer (some ⟨g1, 0, none⟩))).run Tryz.prog w3 = .ok (.agg t11) w3 ∧
          (Calls Tryz.prog 11 #[(.agg t11), (.int .i64 5), (.slice none 0 0)] w3 fun (e12 : Ending) (w4 : World) => ∃ (t12_0a : Option Addr) (t12_0n : Nat) (t12_0c : Nat) (t12_1a : Option Addr) (t12_1n : Nat) (t12_1c : Nat) (t12_2 : Value), e12 = .returned (.tuple #[(.slice t12_0a t12_0n t12_0c), (.slice t12_1a t12_1n t12_1c), t12_2]) ∧
            (∃ (t17 : Bool), (eqlS .neq 36 (.tmp 16) (.const .nilIface) t12_2 .nilIface).run Tryz.prog w4 = .ok (.bool t17) w4 ∧
              ((((t17 || (((t12_1n : Nat) : Int) != (0 : Int))) || (((t12_0n : Nat) : Int) != (63 : Int))) = true →
                  (R (.returned (.bool false)) w4)) ∧
                (((t17 || (((t12_1n : Nat) : Int) != (0 : Int))) || (((t12_0n : Nat) : Int) != (63 : Int))) = false →
                  (∃ (t29 : Array Value), (Instr.loadAt 28 (.pointer (some ⟨g1, 0, none⟩))).run Tryz.prog w4 = .ok (.agg t29) w4 ∧
                    (Calls Tryz.prog 26 #[(.agg t29), (.int .i64 5), (.slice t12_0a t12_0n t12_0c)] w4 fun (e31 : Ending) (w5 : World) => ∃ (t31_0a : Option Addr) (t31_0n : Nat) (t31_0c : Nat) (t31_1 : Value), e31 = .returned (.tuple #[(.slice t31_0a t31_0n t31_0c), t31_1]) ∧
                      (∃ (t35 : Array Value), (Instr.loadAt 28 (.pointer (some ⟨g1, 0, none⟩))).run Tryz.prog w5 = .ok (.agg t35) w5 ∧
                        (Calls Tryz.prog 26 #[(.agg t35), (.int .i64 6), (.slice t12_0a t12_0n t12_0c)] w5 fun (e37 : Ending) (w6 : World) => ∃ (t37_0a : Option Addr) (t37_0n : Nat) (t37_0c : Nat) (t37_1 : Value), e37 = .returned (.tuple #[(.slice t37_0a t37_0n t37_0c), t37_1]) ∧
                          (∃ (t41 : Bool), (eqlS .eql 36 (.tmp 40) (.const .nilIface) t31_1 .nilIface).run Tryz.prog w6 = .ok (.bool t41) w6 ∧
                            (((t41 && (((t31_0n : Nat) : Int) == (0 : Int))) = true →
                                (∃ (t50 : Bool), (eqlS .eql 36 (.tmp 48) (.tmp 49) t37_1 (.iface 69 (.int .i64 17))).run Tryz.prog w6 = .ok (.bool t50) w6 ∧
                                  ((t50 = true →
                                      (Calls Tryz.prog 19 #[(.int .i64 5)] w6 fun (e53 : Ending) (w7 : World) => ∃ (t53 : ByteArray), e53 = .returned (.string t53) ∧
                                        (R (.returned (.bool (t53.toList == (ByteArray.mk #[112, 53]).toList))) w7))) ∧
                                    (t50 = false →
                                      (R (.returned (.bool false)) w6))))) ∧
                              ((t41 && (((t31_0n : Nat) : Int) == (0 : Int))) = false →
                                (R (.returned (.bool false)) w6))))))))))))))))) : Calls Tryz.prog 7 #[] w R :=
  calls_of_ev (args := [])
    (tc := .seq (.reg (.op .p (.nil))) (.seq (.reg (.op (.ld (.agg)) (.op (.cl [.agg]) (.op .bx (.op .u (.nil)))))) (.seq (.reg (.op (.ld (.agg)) (.op (.cl [.slice, .slice, .val]) (.op .p (.op .p (.op .p (.op .p (.op .p (.op .p (.op .p (.nil))))))))))) (.seq (.seq (.reg (.op .p (.op (.ld (.bool)) (.op .p (.ap 3 (.op .p (.ap 3 (.nil)))))))) (.cond (.seq (.reg (.op .p (.nil))) (.leaf)) (.leaf))) (.seq (.reg (.op (.ld (.agg)) (.op .p (.op (.cl [.slice, .val]) (.op .p (.op .p (.op .p (.op .p (.op .p (.nil)))))))))) (.seq (.reg (.op (.ld (.agg)) (.op .p (.op (.cl [.slice, .val]) (.op .p (.op .p (.op .p (.op .p (.op .p (.nil)))))))))) (.seq (.reg (.op .p (.op (.ld (.bool)) (.op .p (.ap 3 (.op .p (.sp 47 (.op .p (.op .p (.op (.ld (.bool)) (.op .p (.op .p (.sp 52 (.op (.cl [.str]) (.op .p (.op .p (.op .p (.nil))))) (.op .p (.op .p (.op .p (.op .p (.nil))))))))))) (.op .p (.op .p (.op .p (.op .p (.op .p (.op .p (.op .p (.op .p (.op .p (.nil))))))))))))))))) (.leaf))))))))
    (by kernel_rfl) Tryz.func7 (by kernel_rfl) (by kernel_rfl) (by kernel_rfl) (by kernel_rfl) h

set_option maxRecDepth 100000 in
theorem amphoralaw13_PackNames_vc (a0 : Int) (a1 : ByteArray) (w : World) (R : Ending → World → Prop) (h :
  Calls Tryz.prog 7 #[] w fun (e9 : Ending) (w1 : World) => ∃ (t9 : Bool), e9 = .returned (.bool t9) ∧
  (((!t9) = true →
      (R (.returned (.bool false)) w1)) ∧
    ((!t9) = false →
      (Calls Tryz.prog 16 #[(.string a1)] w1 fun (e13 : Ending) (w2 : World) => ∃ (t13_0 : Int) (t13_1 : Bool), e13 = .returned (.tuple #[(.int .i64 t13_0), (.bool t13_1)]) ∧
        (Calls Tryz.prog 17 #[(.string a1)] w2 fun (e18 : Ending) (w3 : World) => ∃ (t18_0 : Int) (t18_1 : Bool), e18 = .returned (.tuple #[(.int .i64 t18_0), (.bool t18_1)]) ∧
          ((((t13_0 != t18_0) || (!(t13_1 == t18_1))) = true →
              (R (.returned (.bool false)) w3)) ∧
            (((t13_0 != t18_0) || (!(t13_1 == t18_1))) = false →
              (Calls Tryz.prog 18 #[(.int .i64 a0)] w3 fun (e30 : Ending) (w4 : World) => ∃ (t30 : Bool), e30 = .returned (.bool t30) ∧
                (((!t30) = true →
                    (Calls Tryz.prog 19 #[(.int .i64 a0)] w4 fun (e33 : Ending) (w5 : World) => ∃ (t33 : ByteArray), e33 = .returned (.string t33) ∧
                      (R (.returned (.bool (t33.toList == (ByteArray.mk #[]).toList))) w5))) ∧
                  ((!t30) = false →
                    (Calls Tryz.prog 19 #[(.int .i64 a0)] w4 fun (e37 : Ending) (w6 : World) => ∃ (t37 : ByteArray), e37 = .returned (.string t37) ∧
                      (Calls Tryz.prog 16 #[(.string t37)] w6 fun (e38 : Ending) (w7 : World) => ∃ (t38_0 : Int) (t38_1 : Bool), e38 = .returned (.tuple #[(.int .i64 t38_0), (.bool t38_1)]) ∧
                        (Calls Tryz.prog 19 #[(.int .i64 a0)] w7 fun (e42 : Ending) (w8 : World) => ∃ (t42 : ByteArray), e42 = .returned (.string t42) ∧
                          (Calls Tryz.prog 20 #[(.int .i64 a0)] w8 fun (e44 : Ending) (w9 : World) => ∃ (t44 : ByteArray), e44 = .returned (.string t44) ∧
                            (R (.returned (.bool (((t42.toList == t44.toList) && t38_1) && (t38_0 == a0)))) w9))))))))))))))) : Calls Tryz.prog 4 #[(.int .i64 a0), (.string a1)] w R :=
  calls_of_ev (args := [(.int .i64 a0), (.string a1)])
    (tc := .seq (.reg (.op .p (.nil))) (.seq (.seq (.reg (.op (.cl [.bool]) (.op .p (.nil)))) (.cond (.seq (.reg (.op .p (.nil))) (.leaf)) (.leaf))) (.seq (.reg (.op .p (.op (.cl [.int .i64, .bool]) (.op .p (.op .p (.op .p (.op .p (.op .p (.nil))))))))) (.seq (.reg (.op .p (.op (.cl [.int .i64, .bool]) (.op .p (.op .p (.op .p (.op .p (.op .p (.nil))))))))) (.seq (.seq (.reg (.op .p (.op .p (.op .p (.op .p (.ap 3 (.nil))))))) (.cond (.seq (.reg (.op .p (.nil))) (.leaf)) (.leaf))) (.seq (.seq (.reg (.op .p (.op (.cl [.bool]) (.op .p (.nil))))) (.cond (.seq (.reg (.op .p (.op (.cl [.str]) (.op .p (.op .p (.nil)))))) (.leaf)) (.leaf))) (.seq (.reg (.op .p (.op (.cl [.str]) (.op (.cl [.int .i64, .bool]) (.op .p (.op .p (.op .p (.op .p (.op .p (.nil)))))))))) (.seq (.reg (.op .p (.op (.cl [.str]) (.op .p (.op (.cl [.str]) (.op .p (.op .p (.ap 1 (.op .p (.ap 3 (.op .p (.nil)))))))))))) (.leaf)))))))))
    (by kernel_rfl) Tryz.func4 (by kernel_rfl) (by kernel_rfl) (by kernel_rfl) (by kernel_rfl) h

end Go.Proofs.YtmdandkoajocpaaGreatDoor
end

section
namespace Go.Proofs.YtmdandkoajocpaaGreatDoor
open Go Sx
set_option maxRecDepth 8000

section
variable {w0 w w' : World} {X : List Nat} {M N N' T : List Res}

theorem small5 (w : World) : Calls Tryz.prog 44 #[.int .i64 5] w fun e w' => e = .returned (.string ⟨#[53]⟩) ∧ w' = w := by
  apply strconv_Itoa_vc
  have h1 : Calls Tryz.prog 131 #[.int .i64 5] w fun e w' => e = .returned (.string ⟨#[53]⟩) ∧ w' = w := by
    apply internal_strconv_small_vc
    refine ⟨fun _ => ⟨by decide, by decide, by decide, ?_, rfl⟩, fun h => by simp at h⟩
    rfl
  have h2 : Calls Tryz.prog 113 #[.int .i64 5, .int .i64 10] w fun e w' => e = .returned (.string ⟨#[53]⟩) ∧ w' = w := by
    apply internal_strconv_FormatInt_vc
    refine ⟨fun _ => ⟨fun _ => h1.mono ?_, fun h => by simp at h⟩, fun h => by simp at h⟩
    rintro e w' ⟨rfl, rfl⟩
    exact ⟨_, rfl, rfl, rfl⟩
  have h3 : Calls Tryz.prog 80 #[.int .i64 5] w fun e w' => e = .returned (.string ⟨#[53]⟩) ∧ w' = w := by
    apply internal_strconv_Itoa_vc
    refine h2.mono ?_
    rintro e w' ⟨rfl, rfl⟩
    exact ⟨_, rfl, rfl, rfl⟩
  refine h3.mono ?_
  rintro e w' ⟨rfl, rfl⟩
  exact ⟨_, rfl, rfl, rfl⟩

theorem name5 (w : World) : Calls Tryz.prog 19 #[.int .i64 5] w fun e w' => e = .returned (.string ⟨#[112, 53]⟩) ∧ w' = w := by
  apply pack_Name_vc
  refine (pkgood_spec 5 w).mono ?_
  rintro e w1 ⟨rfl, rfl⟩
  refine ⟨_, rfl, fun h => by simp [goodP] at h, fun _ => (small5 w1).mono ?_⟩
  rintro e w2 ⟨rfl, rfl⟩
  exact ⟨_, rfl, _, rfl, rfl, rfl⟩

def mas9 : List UInt8 := 9 :: List.replicate 31 0
theorem build_mas9 (w : World) : (Instr.build 22 #[(0, .int .u8 9)]).run Tryz.prog w = .ok (.agg (bv mas9).toArray) w := by
  have := build_arr (P := Tryz.prog) (w := w) (T := 22) (d32Z w) Tryz.underlying22 (sB1 w) [.int .u8 9] (by simp [Value.oneCell']) (by simp)
  exact this
theorem small0 : SmallI [] := ⟨by simp, by simp, by simp⟩
theorem build5_len (K : List UInt8) : (buildP K 5 []).length = 63 := by
  rw [buildP_eq]
  have h1 : (footBody K 5 []).length = 45 := by rw [footBody, sealF_len _ _ _ _ (by simp [footL, refsP])]; rfl
  simp only [framesP, frsL, List.map_nil, List.nil_append, List.map_cons, List.flatten_cons, List.flatten_nil, List.append_nil, List.length_append, headP_len, frameL, List.length_cons, h1]
  rw [varL_small (by decide)]
  rfl

theorem alive13_spec (w : World) (hK : KTab w) : Calls Tryz.prog 7 #[] w fun e w' => e = .returned (.bool true) ∧ Chg [] w w' := by
  obtain ⟨mI, hI⟩ := eI
  apply amphoralaw13_alive_vc
  refine ⟨_, build_mas9 w, (rfromMaster_spec mas9 w (by decide)).mono ?_⟩
  rintro e w1 ⟨rfl, c1⟩
  obtain ⟨K, hKK⟩ : ∃ K, masterF mas9 = K := ⟨_, rfl⟩
  have hk : K.length = 96 := by rw [← hKK]; simp
  rw [hKK]
  obtain ⟨g1, w2, r2, h2⟩ := ((St.start w).same c1).zeroA kyZ
  obtain ⟨w3, r3, h3⟩ := h2.stA (i := 0) (v := bv K) rfl (kyS _) (by simp) (by simp [hk]) (bv_one _)
  have ld : ∀ w', Chg [] w3 w' → (Instr.loadAt 28 (.pointer (some ⟨g1, 0, none⟩))).run Tryz.prog w' = .ok (.agg (bv K).toArray) w' := fun w' hc => (h3.same hc).ldA (i := 0) (l := bv K) rfl (kyA _) (kyS _) (by simp [hk])
  have kK : ∀ w', Chg [] w3 w' → KTab w' := fun w' hc => hK.keep0 (h3.chg.trans hc)
  have hz := Chg.refl [] w3
  refine ⟨_, rfl, g1, w2, r2, w3, r3, _, ld _ hz, (build_spec13 K hk 5 none 0 0 [] w3 (kK _ hz) rfl ⟨RdE.nil _, by simp⟩ small0).mono ?_⟩
  rintro e w4 ⟨ba, bn, bc, ra, rc, rfl, hbn, k4⟩
  have k4 : St w3 [] w4 [.row 5 1 (.slice ba bn bc) bn (bv (buildP K 5 [])), .row 75 35 (.slice ra 0 rc) 0 []] := k4
  have hbn : bn = 63 := hbn.trans (build5_len K)
  subst hbn
  have hB : RdB w4 ba 63 bc (buildP K 5 []) := k4.rd (i := 0) rfl
  have d4 := k4.chg
  have o5 : openP K 5 (buildP K 5 []) = (none, []) := open_build K rfl small0
  have o6 : openP K 6 (buildP K 5 []) = (some 17, []) := open_other_num K rfl rfl (by decide) []
  refine ⟨_, _, _, _, _, _, _, rfl, _, neqS_nil hI none _ _, fun h => ?_, fun _ => ⟨_, ld _ d4, (pkopen_spec K hk 5 ba 63 bc _ w4 (kK _ d4) hB (by decide)).mono ?_⟩⟩
  · simp [refsP] at h
  rintro e w5 ⟨oa, oc, rfl, _, c5⟩
  rw [o5]
  have d5 := d4.trans c5
  refine ⟨_, _, _, _, rfl, _, ld _ d5, (pkopen_spec K hk 6 ba 63 bc _ w5 (kK _ d5) (hB.keep0 c5) (by decide)).mono ?_⟩
  rintro e w6 ⟨pa, pc, rfl, _, c6⟩
  rw [o6]
  have d6 := d5.trans c6
  refine ⟨_, _, _, _, rfl, _, eqlS_nil hI none _ _, fun _ => ⟨_, eqlS_err hI (some 17) 17 _ _ _, fun _ => (name5 w6).mono ?_, fun h => by simp at h⟩, fun h => by simp at h⟩
  rintro e w7 ⟨rfl, rfl⟩
  exact ⟨_, rfl, by simp, h3.chg.trans d6⟩

end

end Go.Proofs.YtmdandkoajocpaaGreatDoor
end

section
namespace Go.Proofs.YtmdandkoajocpaaGreatDoor
open Go.Shelf
def laysItoa_ren : Go.Shelf.Ren := ⟨fun | 171 => 44 | 243 => 80 | 246 => 113 | 283 => 131 | 284 => 132 | 285 => 133 | 286 => 134 | 129 => 152 | 317 => 151 | 318 => 153 | 319 => 154 | 320 => 155 | 337 => 173 | 338 => 174 | n => n, fun | 3 => 3 | 9 => 9 | 2 => 2 | 4 => 4 | 171 => 215 | 0 => 0 | 53 => 177 | 37 => 33 | 5 => 5 | 173 => 218 | 212 => 244 | 51 => 209 | 20 => 20 | 213 => 245 | 46 => 199 | 232 => 22 | 233 => 207 | n => n, fun | 17 => 2 | 18 => 3 | 19 => 4 | n => n⟩
theorem laysItoa : Go.Proofs.LaysM.n171 Tryz.prog laysItoa_ren := {
  mixed := by kernel_rfl
  f129 := Tryz.func152.trans (congrArg some (by kernel_rfl))
  f171 := Tryz.func44.trans (congrArg some (by kernel_rfl))
  f243 := Tryz.func80.trans (congrArg some (by kernel_rfl))
  f246 := Tryz.func113.trans (congrArg some (by kernel_rfl))
  f283 := Tryz.func131.trans (congrArg some (by kernel_rfl))
  f284 := Tryz.func132.trans (congrArg some (by kernel_rfl))
  f285 := Tryz.func133.trans (congrArg some (by kernel_rfl))
  f286 := Tryz.func134.trans (congrArg some (by kernel_rfl))
  f317 := Tryz.func151.trans (congrArg some (by kernel_rfl))
  f318 := Tryz.func153.trans (congrArg some (by kernel_rfl))
  f319 := Tryz.func154.trans (congrArg some (by kernel_rfl))
  f320 := Tryz.func155.trans (congrArg some (by kernel_rfl))
  f337 := Tryz.func173.trans (congrArg some (by kernel_rfl))
  f338 := Tryz.func174.trans (congrArg some (by kernel_rfl))
  t0 := Tryz.underlying0
  a0 := Tryz.isAgg0
  z0 := Tryz.sizeOf0
  v0 := Tryz.zeroValue0
  t2 := Tryz.underlying2
  a2 := Tryz.isAgg2
  z2 := Tryz.sizeOf2
  v2 := Tryz.zeroValue2
  t3 := Tryz.underlying3
  a3 := Tryz.isAgg3
  z3 := Tryz.sizeOf3
  v3 := Tryz.zeroValue3
  t4 := Tryz.underlying4
  a4 := Tryz.isAgg4
  z4 := Tryz.sizeOf4
  v4 := Tryz.zeroValue4
  t5 := Tryz.underlying5
  a5 := Tryz.isAgg5
  z5 := Tryz.sizeOf5
  v5 := Tryz.zeroValue5
  t9 := Tryz.underlying9
  a9 := Tryz.isAgg9
  z9 := Tryz.sizeOf9
  v9 := Tryz.zeroValue9
  t20 := Tryz.underlying20
  a20 := Tryz.isAgg20
  z20 := Tryz.sizeOf20
  v20 := Tryz.zeroValue20
  t37 := Tryz.underlying33
  a37 := Tryz.isAgg33
  z37 := Tryz.sizeOf33
  v37 := Tryz.zeroValue33
  t46 := Tryz.underlying199
  a46 := Tryz.isAgg199
  z46 := Tryz.sizeOf199
  v46 := Tryz.zeroValue199
  t51 := Tryz.underlying209
  a51 := Tryz.isAgg209
  z51 := Tryz.sizeOf209
  v51 := Tryz.zeroValue209
  t53 := Tryz.underlying177
  a53 := Tryz.isAgg177
  z53 := Tryz.sizeOf177
  v53 := Tryz.zeroValue177
  t171 := Tryz.underlying215
  a171 := Tryz.isAgg215
  z171 := Tryz.sizeOf215
  v171 := Tryz.zeroValue215
  t173 := Tryz.underlying218
  a173 := Tryz.isAgg218
  z173 := Tryz.sizeOf218
  v173 := Tryz.zeroValue218
  t212 := Tryz.underlying244
  a212 := Tryz.isAgg244
  z212 := Tryz.sizeOf244
  v212 := Tryz.zeroValue244
  t213 := Tryz.underlying245
  a213 := Tryz.isAgg245
  z213 := Tryz.sizeOf245
  t232 := Tryz.underlying22
  a232 := Tryz.isAgg22
  z232 := Tryz.sizeOf22
  v232 := Tryz.zeroValue22
  t233 := Tryz.underlying207
  a233 := Tryz.isAgg207
  z233 := Tryz.sizeOf207
  v233 := Tryz.zeroValue207
  g17 := by kernel_rfl
  g18 := by kernel_rfl
  g19 := by kernel_rfl
  i0 := by kernel_rfl
  i2 := by kernel_rfl
  i3 := by kernel_rfl
  i4 := by kernel_rfl
  i5 := by kernel_rfl
  i9 := by kernel_rfl
  i20 := by kernel_rfl
  i37 := by kernel_rfl
  i46 := by kernel_rfl
  i51 := by kernel_rfl
  i53 := by kernel_rfl
  i171 := by kernel_rfl
  i173 := by kernel_rfl
  i212 := by kernel_rfl
  i232 := by kernel_rfl
  i233 := by kernel_rfl
  m17 := by kernel_rfl
  m18 := by kernel_rfl
  m19 := by kernel_rfl }
end Go.Proofs.YtmdandkoajocpaaGreatDoor
end

section
namespace Go.Proofs.YtmdandkoajocpaaGreatDoor
def lexLt : List UInt8 → List UInt8 → Bool
  | [], [] => false
  | [], _ :: _ => true
  | _ :: _, [] => false
  | a :: l, b :: m => if a.toNat < b.toNat then true else if b.toNat < a.toNat then false else lexLt l m
theorem lex_irrefl : ∀ l, lexLt l l = false
  | [] => rfl
  | a :: l => by simp [lexLt, lex_irrefl l]
theorem lex_trans : ∀ l m k, lexLt l m = true → lexLt m k = true → lexLt l k = true
  | [], [], _, h, _ => by simp [lexLt] at h
  | [], _ :: _, [], _, h => by simp [lexLt] at h
  | [], _ :: _, _ :: _, _, _ => rfl
  | _ :: _, [], _, h, _ => by simp [lexLt] at h
  | _ :: _, _ :: _, [], _, h => by simp [lexLt] at h
  | a :: l, b :: m, c :: k, h1, h2 => by
    simp only [lexLt] at h1 h2 ⊢
    split at h1
    · split at h2
      · rw [if_pos (by omega)]
      · split at h2
        · cases h2
        · rw [if_pos (by omega)]
    · split at h1
      · cases h1
      · split at h2
        · rw [if_pos (by omega)]
        · split at h2
          · cases h2
          · rw [if_neg (by omega), if_neg (by omega)]
            exact lex_trans l m k h1 h2
theorem lex_tri : ∀ l m, lexLt l m = false → lexLt m l = false → l = m
  | [], [], _, _ => rfl
  | [], _ :: _, h, _ => by simp [lexLt] at h
  | _ :: _, [], _, h => by simp [lexLt] at h
  | a :: l, b :: m, h1, h2 => by
    simp only [lexLt] at h1 h2
    split at h1
    · cases h1
    · split at h2
      · cases h2
      · rename_i n1 n2
        rw [if_neg (by omega)] at h1
        have e : a = b := UInt8.toNat_inj.1 (by omega)
        rw [e, lex_tri l m h1 h2]
theorem lex_asymm {l m : List UInt8} (h : lexLt l m = true) : lexLt m l = false := by
  cases h2 : lexLt m l with
  | false => rfl
  | true => have := lex_trans l m l h h2; rw [lex_irrefl] at this; cases this
theorem lex_ne {l m : List UInt8} (h : lexLt l m = true) : l ≠ m := fun e => by subst e; rw [lex_irrefl] at h; cases h
/-- Strictly ascending by a key. -/
def AscBy {α : Type} (key : α → List UInt8) : List α → Prop := List.Pairwise fun x y => lexLt (key x) (key y) = true

theorem asc_nodup {α : Type} {key : α → List UInt8} {l : List α} (h : AscBy key l) {x y : α} (hx : x ∈ l) (hy : y ∈ l) (he : key x = key y) : x = y := by
  induction l with
  | nil => simp at hx
  | cons z l ih =>
    have a := List.pairwise_cons.1 h
    rcases List.mem_cons.1 hx with e1 | h1 <;> rcases List.mem_cons.1 hy with e2 | h2
    · rw [e1, e2]
    · rw [e1] at he; exact absurd he (lex_ne (a.1 y h2))
    · rw [e2] at he; exact absurd he.symm (lex_ne (a.1 x h1))
    · exact ih a.2 h1 h2

namespace Sx
def strV (l : List UInt8) : Value := .string ⟨l.toArray⟩
end Sx

namespace Sx
open Go
set_option maxRecDepth 8000

/-- A map's entries: by key and value. -/
structure MapE {α : Type} (key val : α → Value) (es : Array MapEntry) (clock : Nat) (M : List α) : Prop where
  ents : es.toList.map (fun x => (x.key, x.val)) = M.map fun r => (key r, val r)
  born : (es.toList.map (·.born)).Nodup
  old : ∀ x ∈ es.toList, x.born < clock

theorem MapE.nil {α : Type} (key val : α → Value) : MapE key val #[] 0 ([] : List α) := ⟨rfl, by simp, by simp⟩
theorem MapE.len {α : Type} {key val : α → Value} {es : Array MapEntry} {clock : Nat} {M : List α} (h : MapE key val es clock M) : es.size = M.length := by
  have := congrArg List.length h.ents
  simpa using this
theorem MapE.at_ {α : Type} {key val : α → Value} {es : Array MapEntry} {clock : Nat} {M : List α} (h : MapE key val es clock M) {i : Nat} {x : MapEntry} (hx : es.toList[i]? = some x) : ∃ r, M[i]? = some r ∧ x.key = key r ∧ x.val = val r := by
  have := congrArg (fun l => l[i]?) h.ents
  simp only [List.getElem?_map, hx, Option.map_some] at this
  cases hm : M[i]? with
  | none => rw [hm] at this; cases this
  | some r =>
    rw [hm] at this
    simp only [Option.map_some, Option.some.injEq, Prod.mk.injEq] at this
    exact ⟨r, rfl, this.1, this.2⟩

section
variable {P : Program} {α : Type} {key val : α → Value} {kid : α → List UInt8} {KT : TypeId} {kv : List UInt8 → Value} {ok : List UInt8 → Prop}

/-- What is asked of a type of keys: kv tells the key of some bytes. -/
structure KeyOps (P : Program) (KT : TypeId) (kv : List UInt8 → Value) (ok : List UInt8 → Prop) : Prop where
  chk : ∀ id, ok id → ∀ (em : Bool) (w : World), (Instr.checkKey em 10000 KT (kv id)).run P w = .ok () w
  find : ∀ (α : Type) (val : α → Value) (kid : α → List UInt8) (L : List MapEntry) (M : List α) (id : List UInt8), ok id → ∀ w : World, L.map (fun x => (x.key, x.val)) = M.map (fun r => (kv (kid r), val r)) → (∀ r ∈ M, ok (kid r)) →
    (Instr.findKey KT (kv id) L).run P w = .ok (((M.findIdx? fun r => kid r == id).bind fun j => (M[j]?).map fun r => (j, val r))) w
  stay : ∀ id, ∀ w : World, (Instr.keyThatStays (kv id) (kv id)).run P w = .ok (kv id) w

/-- The first entry of a key: its place and what it is. -/
def fndM (kid : α → List UInt8) (M : List α) (id : List UInt8) : Option (Nat × α) := (M.findIdx? fun r => kid r == id).bind fun j => (M[j]?).map fun r => (j, r)
theorem fnd_some {M : List α} {id : List UInt8} {j : Nat} {r : α} (h : fndM kid M id = some (j, r)) : M[j]? = some r ∧ kid r = id := by
  unfold fndM at h
  simp only [Option.bind_eq_some_iff, Option.map_eq_some_iff, Prod.mk.injEq] at h
  obtain ⟨j', h1, r', h2, rfl, rfl⟩ := h
  refine ⟨h2, ?_⟩
  rw [List.findIdx?_eq_some_iff_getElem] at h1
  obtain ⟨hl, h3, _⟩ := h1
  rw [List.getElem?_eq_getElem hl, Option.some.injEq] at h2
  rw [h2] at h3
  simpa using h3
theorem fnd_none {M : List α} {id : List UInt8} (h : fndM kid M id = none) : ∀ r ∈ M, kid r ≠ id := by
  intro r hr e
  unfold fndM at h
  cases hf : M.findIdx? fun r => kid r == id with
  | none =>
    have := List.findIdx?_eq_none_iff.1 hf r hr
    simp [e] at this
  | some j =>
    rw [hf] at h
    rw [List.findIdx?_eq_some_iff_getElem] at hf
    obtain ⟨hl, _⟩ := hf
    simp [List.getElem?_eq_getElem hl] at h

variable {w : World} {g : Nat} {es : Array MapEntry} {clock : Nat} {M : List α} {mt ET : TypeId}

structure KeyM (P : Program) (KT : TypeId) (kv : List UInt8 → Value) (ok : List UInt8 → Prop) (key : α → Value) (kid : α → List UInt8) (M : List α) : Prop where
  ops : KeyOps P KT kv ok
  key : ∀ r, key r = kv (kid r)
  len : ∀ r ∈ M, ok (kid r)

def updM (kid : α → List UInt8) (M : List α) (r : α) : List α := match fndM kid M (kid r) with
  | some (j, _) => M.set j r
  | none => M ++ [r]

end
end Sx

namespace Sx
open Go
set_option maxRecDepth 8000

end Sx

open Go Sx
set_option maxRecDepth 8000

section
variable {α : Type} (kid : α → List UInt8)
def insA (S : List α) (r : α) : List α := S.filter (fun s => lexLt (kid s) (kid r)) ++ r :: S.filter (fun s => lexLt (kid r) (kid s))
def delA (S : List α) (id : List UInt8) : List α := S.filter fun s => !decide (kid s = id)
def findA (S : List α) (id : List UInt8) : Option α := S.find? fun r => kid r == id
end

section
variable {α : Type} {kid : α → List UInt8} {S M : List α}

theorem lex_total {l m : List UInt8} (h : l ≠ m) : lexLt l m = true ∨ lexLt m l = true := by
  cases h1 : lexLt l m with
  | true => exact .inl rfl
  | false =>
    cases h2 : lexLt m l with
    | true => exact .inr rfl
    | false => exact absurd (lex_tri _ _ h1 h2) h

theorem mem_insA {x r : α} : x ∈ insA kid S r ↔ x = r ∨ (x ∈ S ∧ kid x ≠ kid r) := by
  unfold insA
  simp only [List.mem_append, List.mem_cons, List.mem_filter]
  constructor
  · rintro (⟨h1, h2⟩ | rfl | ⟨h1, h2⟩)
    · exact .inr ⟨h1, lex_ne h2⟩
    · exact .inl rfl
    · exact .inr ⟨h1, (lex_ne h2).symm⟩
  · rintro (rfl | ⟨h1, h2⟩)
    · exact .inr (.inl rfl)
    · rcases lex_total h2 with h | h
      · exact .inl ⟨h1, h⟩
      · exact .inr (.inr ⟨h1, h⟩)
theorem mem_delA {x : α} {id : List UInt8} : x ∈ delA kid S id ↔ x ∈ S ∧ kid x ≠ id := by simp [delA]
theorem asc_insA (h : AscBy kid S) (r : α) : AscBy kid (insA kid S r) := by
  unfold insA AscBy
  refine List.pairwise_append.2 ⟨h.sublist List.filter_sublist, List.pairwise_cons.2 ⟨fun x hx => (List.mem_filter.1 hx).2, h.sublist List.filter_sublist⟩, fun x hx y hy => ?_⟩
  have h1 := (List.mem_filter.1 hx).2
  rcases List.mem_cons.1 hy with rfl | hy
  · exact h1
  · exact lex_trans _ _ _ h1 (List.mem_filter.1 hy).2
theorem asc_delA (h : AscBy kid S) (id : List UInt8) : AscBy kid (delA kid S id) := h.sublist List.filter_sublist
theorem asc_ne (h : AscBy kid S) : S.Pairwise fun x y => kid x ≠ kid y := h.imp fun h => lex_ne h

theorem findA_mem {id : List UInt8} {r : α} (h : findA kid S id = some r) : r ∈ S ∧ kid r = id := ⟨List.mem_of_find?_eq_some h, by simpa using List.find?_some h⟩
theorem findA_none {id : List UInt8} (h : findA kid S id = none) : ∀ r ∈ S, kid r ≠ id := by
  intro r hr
  rw [findA, List.find?_eq_none] at h
  simpa using h r hr
theorem findA_iff (h : AscBy kid S) {r : α} : findA kid S (kid r) = some r ↔ r ∈ S := by
  constructor
  · exact fun hf => (findA_mem hf).1
  · intro hr
    cases hq : findA kid S (kid r) with
    | none => exact absurd rfl (findA_none hq r hr)
    | some z =>
      obtain ⟨h1, h2⟩ := findA_mem hq
      rw [asc_nodup h h1 hr h2]
theorem insA_len (S : List α) (r : α) : (insA kid S r).length ≤ S.length + 1 := by
  have key : ∀ T : List α, (T.filter fun s => lexLt (kid s) (kid r)).length + (T.filter fun s => lexLt (kid r) (kid s)).length ≤ T.length := by
    intro T
    induction T with
    | nil => simp
    | cons x T ih =>
      cases h1 : lexLt (kid x) (kid r) with
      | true =>
        have h2 := lex_asymm h1
        simp [List.filter_cons, h1, h2]; omega
      | false => cases h2 : lexLt (kid r) (kid x) <;> simp [List.filter_cons, h1, h2] <;> omega
  have := key S
  simp only [insA, List.length_append, List.length_cons]
  omega
theorem insA_len_in {S : List α} (hS : AscBy kid S) {r : α} (h : findA kid S (kid r) ≠ none) : (insA kid S r).length ≤ S.length := by
  obtain ⟨y, hy⟩ : ∃ y, findA kid S (kid r) = some y := by
    cases hq : findA kid S (kid r) with
    | none => exact absurd hq h
    | some y => exact ⟨y, rfl⟩
  obtain ⟨h1, h2⟩ := findA_mem hy
  obtain ⟨A, B, rfl⟩ := List.append_of_mem h1
  have hp := List.pairwise_append.1 hS
  have hA : A.filter (fun s => lexLt (kid r) (kid s)) = [] := List.filter_eq_nil_iff.2 fun x hx => by
    have := hp.2.2 x hx y (by simp)
    rw [h2] at this
    rw [lex_asymm this]; simp
  have hB : B.filter (fun s => lexLt (kid s) (kid r)) = [] := List.filter_eq_nil_iff.2 fun x hx => by
    have := (List.pairwise_cons.1 hp.2.1).1 x hx
    rw [h2] at this
    rw [lex_asymm this]; simp
  have l1 := List.length_filter_le (fun s => lexLt (kid s) (kid r)) A
  have l2 := List.length_filter_le (fun s => lexLt (kid r) (kid s)) B
  simp only [insA, List.filter_append, List.filter_cons, hA, hB, h2, lex_irrefl, List.length_append, List.length_cons, List.nil_append, List.append_nil, Bool.false_eq_true, if_false]
  omega
theorem delA_len (S : List α) (id : List UInt8) : (delA kid S id).length ≤ S.length := List.length_filter_le _ _
theorem delA_len_in {S : List α} {id : List UInt8} {y : α} (h : findA kid S id = some y) : (delA kid S id).length + 1 ≤ S.length := by
  obtain ⟨h1, h2⟩ := findA_mem h
  obtain ⟨A, B, rfl⟩ := List.append_of_mem h1
  have l1 := List.length_filter_le (fun s => !decide (kid s = id)) A
  have l2 := List.length_filter_le (fun s => !decide (kid s = id)) B
  simp only [delA, List.filter_append, List.filter_cons, h2, List.length_append, List.length_cons, decide_true, Bool.not_true, Bool.false_eq_true, if_false]
  omega

/-- What a map holds, in order. -/
structure MapIsA (kid : α → List UInt8) (M S : List α) : Prop where
  perm : M.Perm S
  asc : AscBy kid S
theorem MapIsA.nil : MapIsA kid [] [] := ⟨List.Perm.refl _, List.Pairwise.nil⟩

theorem fnd_find (hp : M.Perm S) (hS : AscBy kid S) (id : List UInt8) : (fndM kid M id).map (·.2) = findA kid S id := by
  cases hf : fndM kid M id with
  | none =>
    have hn := fnd_none hf
    symm
    rw [Option.map_none, findA, List.find?_eq_none]
    intro r hr
    have := hn r (hp.mem_iff.2 hr)
    simpa using this
  | some p =>
    obtain ⟨j, y⟩ := p
    obtain ⟨hj, hy⟩ := fnd_some hf
    have hyS : y ∈ S := hp.mem_iff.1 (List.mem_of_getElem? hj)
    rw [Option.map_some, ← hy]
    exact ((findA_iff hS).2 hyS).symm
theorem MapIsA.find (h : MapIsA kid M S) (id : List UInt8) : (fndM kid M id).map (·.2) = findA kid S id := fnd_find h.perm h.asc id

theorem split_at {M : List α} {j : Nat} {y : α} (hj : M[j]? = some y) : M = M.take j ++ y :: M.drop (j + 1) ∧ (∀ r, M.set j r = M.take j ++ r :: M.drop (j + 1)) ∧ M.eraseIdx j = M.take j ++ M.drop (j + 1) := by
  obtain ⟨hl, e⟩ := List.getElem?_eq_some_iff.1 hj
  refine ⟨?_, fun r => ?_, List.eraseIdx_eq_take_drop_succ ..⟩
  · rw [← e, ← List.drop_eq_getElem_cons hl, List.take_append_drop]
  · rw [List.set_eq_take_append_cons_drop, if_pos hl]

theorem MapIsA.nd (h : MapIsA kid M S) : M.Pairwise fun x y => kid x ≠ kid y := (asc_ne h.asc).perm h.perm.symm fun h => h.symm

theorem nodup_of_ne {M : List α} (h : M.Pairwise fun x y => kid x ≠ kid y) : M.Nodup := h.imp fun h e => h (by rw [e])

theorem MapIsA.upd (h : MapIsA kid M S) (r : α) : MapIsA kid (updM kid M r) (insA kid S r) := by
  refine ⟨?_, asc_insA h.asc r⟩
  have hnd : (updM kid M r).Pairwise fun x y => kid x ≠ kid y := by
    unfold updM
    cases hf : fndM kid M (kid r) with
    | none =>
      have hn := fnd_none hf
      exact List.pairwise_append.2 ⟨h.nd, by simp, fun x hx y hy => by simp at hy; rw [hy]; exact hn x hx⟩
    | some p =>
      obtain ⟨j, y⟩ := p
      obtain ⟨hj, hy⟩ := fnd_some hf
      obtain ⟨h1, h2, _⟩ := split_at hj
      have hM := h.nd
      rw [h1] at hM
      show (M.set j r).Pairwise _
      rw [h2]
      have hp := List.pairwise_append.1 hM
      have hc := List.pairwise_cons.1 hp.2.1
      refine List.pairwise_append.2 ⟨hp.1, List.pairwise_cons.2 ⟨fun x hx => by rw [← hy]; exact hc.1 x hx, hc.2⟩, fun x hx z hz => ?_⟩
      rcases List.mem_cons.1 hz with rfl | hz
      · rw [← hy]; exact hp.2.2 x hx y (by simp)
      · exact hp.2.2 x hx z (by simp [hz])
  refine (List.perm_ext_iff_of_nodup (nodup_of_ne hnd) (nodup_of_ne (asc_ne (asc_insA h.asc r)))).2 fun x => ?_
  rw [mem_insA, ← h.perm.mem_iff]
  unfold updM
  cases hf : fndM kid M (kid r) with
  | none =>
    have hn := fnd_none hf
    show x ∈ M ++ [r] ↔ _
    rw [List.mem_append, List.mem_singleton]
    constructor
    · rintro (h1 | rfl)
      · exact .inr ⟨h1, hn x h1⟩
      · exact .inl rfl
    · rintro (rfl | ⟨h1, _⟩)
      · exact .inr rfl
      · exact .inl h1
  | some p =>
    obtain ⟨j, y⟩ := p
    obtain ⟨hj, hy⟩ := fnd_some hf
    obtain ⟨h1, h2, _⟩ := split_at hj
    show x ∈ M.set j r ↔ _
    rw [h2]
    have hM := h.nd
    rw [h1] at hM
    have hp := List.pairwise_append.1 hM
    have hc := List.pairwise_cons.1 hp.2.1
    constructor
    · intro hx
      rcases List.mem_append.1 hx with hx | hx
      · refine .inr ⟨by rw [h1]; simp [hx], ?_⟩
        rw [← hy]; exact hp.2.2 x hx y (by simp)
      · rcases List.mem_cons.1 hx with rfl | hx
        · exact .inl rfl
        · refine .inr ⟨by rw [h1]; simp [hx], ?_⟩
          rw [← hy]; exact (hc.1 x hx).symm
    · rintro (rfl | ⟨hx, hne⟩)
      · simp
      · rw [h1] at hx
        rcases List.mem_append.1 hx with hx | hx
        · simp [hx]
        · rcases List.mem_cons.1 hx with rfl | hx
          · exact absurd hy hne
          · simp [hx]

theorem MapIsA.del (h : MapIsA kid M S) {id : List UInt8} {j : Nat} {y : α} (hf : fndM kid M id = some (j, y)) : MapIsA kid (M.eraseIdx j) (delA kid S id) := by
  obtain ⟨hj, hy⟩ := fnd_some hf
  obtain ⟨h1, _, h3⟩ := split_at hj
  refine ⟨?_, asc_delA h.asc id⟩
  have hM := h.nd
  refine (List.perm_ext_iff_of_nodup (nodup_of_ne (hM.sublist (List.eraseIdx_sublist _ _))) (nodup_of_ne (asc_ne (asc_delA h.asc id)))).2 fun x => ?_
  rw [mem_delA, ← h.perm.mem_iff, h3]
  rw [h1] at hM
  have hp := List.pairwise_append.1 hM
  have hc := List.pairwise_cons.1 hp.2.1
  constructor
  · intro hx
    rcases List.mem_append.1 hx with hx | hx
    · refine ⟨by rw [h1]; simp [hx], ?_⟩
      rw [← hy]; exact hp.2.2 x hx y (by simp)
    · refine ⟨by rw [h1]; simp [hx], ?_⟩
      rw [← hy]; exact (hc.1 x hx).symm
  · rintro ⟨hx, hne⟩
    rw [h1] at hx
    rcases List.mem_append.1 hx with hx | hx
    · simp [hx]
    · rcases List.mem_cons.1 hx with rfl | hx
      · exact absurd hy hne
      · simp [hx]
theorem MapE.congr {key val val' : α → Value} {es : Array MapEntry} {ck : Nat} (h : MapE key val es ck M) (hv : ∀ r ∈ M, val r = val' r) : MapE key val' es ck M := by
  refine ⟨?_, h.born, h.old⟩
  rw [h.ents]
  exact List.map_congr_left fun r hr => by rw [hv r hr]
end

namespace Sx
open Go
set_option maxRecDepth 8000

section
variable {P : Program} {α : Type} {key val : α → Value} {es : Array MapEntry} {clock : Nat} {M : List α}

end
end Sx

end Go.Proofs.YtmdandkoajocpaaGreatDoor
end

section
namespace Go.Proofs.YtmdandkoajocpaaGreatDoor
open Go Sx
set_option maxRecDepth 8000

abbrev Nm := List UInt8
/-- A name with the number of its file. -/
structure Ent where
  name : Nm
  file : Nat
abbrev Dir := List Ent
/-- A change of the directory. -/
structure ChM where
  made : Option Nat
  fr : Nm
  to : Nm
structure FileM where
  data : List UInt8
  syn : Nat
structure DiskM where
  size : Int
  files : List FileM
  now : Dir
  syn : Dir
  chs : List ChM
  steps : Nat
  down : Bool
  arm : Option Nat
  fails : List Nat

def goodB (b : UInt8) : Bool := decide (33 ≤ b.toNat) && decide (b.toNat ≤ 126) && !decide (b.toNat = 47)
def goodN (l : Nm) : Bool := decide (0 < l.length) && decide (l.length ≤ 64) && l.all goodB

abbrev findD (d : Dir) (n : Nm) : Option Ent := findA Ent.name d n
def mkD (d : Dir) (c : ChM) : Dir := match c.made with
  | some i => insA Ent.name d ⟨c.to, i⟩
  | none => match findD d c.fr with
    | none => d
    | some e => if c.to = [] then delA Ent.name d c.fr else insA Ent.name (delA Ent.name d c.fr) ⟨c.to, e.file⟩
def replay (d : Dir) (cs : List ChM) : Dir := cs.foldl mkD d
theorem replay_snoc (d : Dir) (cs : List ChM) (c : ChM) : replay d (cs ++ [c]) = mkD (replay d cs) c := by simp [replay]

def file0 : FileM := ⟨[], 0⟩
def fileAt (fs : List FileM) (i : Nat) : FileM := fs.getD i file0
def stepM (m : DiskM) : DiskM × Option Int :=
  if m.arm = some 0 then ({ m with down := true }, some 1)
  else match m.fails with
    | [] => ({ m with steps := m.steps + 1, arm := m.arm.map (· - 1) }, none)
    | 0 :: r => ({ m with steps := m.steps + 1, arm := m.arm.map (· - 1), fails := r }, some 2)
    | (k + 1) :: r => ({ m with steps := m.steps + 1, arm := m.arm.map (· - 1), fails := k :: r }, none)
def doCh (m : DiskM) (c : ChM) : DiskM := { m with now := mkD m.now c, chs := m.chs ++ [c] }
structure OkDir (k : Nat) (d : Dir) : Prop where
  asc : AscBy Ent.name d
  len : d.length ≤ 4096
  ent : ∀ e ∈ d, e.file < k ∧ goodN e.name = true
  inj : d.Pairwise fun x y => x.file ≠ y.file
structure WFD (m : DiskM) : Prop where
  now : m.now = replay m.syn m.chs
  dirs : ∀ k, OkDir m.files.length (replay m.syn (m.chs.take k))
  made : ∀ c ∈ m.chs, ∀ i, c.made = some i → i < m.files.length
  syn : ∀ f ∈ m.files, f.syn ≤ f.data.length ∧ f.data.length ≤ 1099511627776
  size : 0 ≤ m.size ∧ m.size ≤ 67108864

theorem WFD.okNow {m : DiskM} (h : WFD m) : OkDir m.files.length m.now := by
  have := h.dirs m.chs.length
  rw [List.take_length, ← h.now] at this
  exact this
theorem OkDir.mono {k k' : Nat} {d : Dir} (h : OkDir k d) (hk : k ≤ k') : OkDir k' d := ⟨h.asc, h.len, fun e he => ⟨by have := (h.ent e he).1; omega, (h.ent e he).2⟩, h.inj⟩
theorem OkDir.del {k : Nat} {d : Dir} (h : OkDir k d) (n : Nm) : OkDir k (delA Ent.name d n) :=
  ⟨asc_delA h.asc n, Nat.le_trans (delA_len _ _) h.len, fun e he => h.ent e (mem_delA.1 he).1, h.inj.sublist List.filter_sublist⟩
theorem OkDir.inj' {k : Nat} {d : Dir} (h : OkDir k d) {x y : Ent} (hx : x ∈ d) (hy : y ∈ d) (he : x.file = y.file) : x = y := by
  have hi := h.inj
  clear h
  induction d with
  | nil => simp at hx
  | cons z d ih =>
    have a := List.pairwise_cons.1 hi
    rcases List.mem_cons.1 hx with e1 | h1 <;> rcases List.mem_cons.1 hy with e2 | h2
    · rw [e1, e2]
    · rw [e1] at he; exact absurd he (a.1 y h2)
    · rw [e2] at he; exact absurd he.symm (a.1 x h1)
    · exact ih h1 h2 a.2
theorem OkDir.ins {k : Nat} {d : Dir} (h : OkDir k d) {n : Nm} {i : Nat} (hi : i < k) (hn : goodN n = true) (hl : d.length + 1 ≤ 4096 ∨ findD d n ≠ none) (hne : ∀ e ∈ d, e.name ≠ n → e.file ≠ i) : OkDir k (insA Ent.name d ⟨n, i⟩) := by
  refine ⟨asc_insA h.asc _, ?_, fun e he => ?_, ?_⟩
  · rcases hl with hl | hl
    · exact Nat.le_trans (insA_len d _) hl
    · exact Nat.le_trans (insA_len_in h.asc hl) h.len
  · rcases mem_insA.1 he with rfl | ⟨he, _⟩
    · exact ⟨hi, hn⟩
    · exact h.ent e he
  · unfold insA
    refine List.pairwise_append.2 ⟨h.inj.sublist List.filter_sublist, List.pairwise_cons.2 ⟨fun x hx => ?_, h.inj.sublist List.filter_sublist⟩, fun x hx y hy => ?_⟩
    · have h1 := List.mem_filter.1 hx
      exact (hne x h1.1 (lex_ne h1.2).symm).symm
    · have h1 := List.mem_filter.1 hx
      rcases List.mem_cons.1 hy with rfl | hy
      · exact hne x h1.1 (lex_ne h1.2)
      · have h2 := List.mem_filter.1 hy
        intro e
        have e2 := h.inj' h1.1 h2.1 e
        subst e2
        have := lex_trans _ _ _ h1.2 h2.2
        rw [lex_irrefl] at this
        cases this

theorem WFD.snoc {m : DiskM} (h : WFD m) {c : ChM} {fs : List FileM} (hfs : m.files.length ≤ fs.length) (hs : ∀ f ∈ fs, f.syn ≤ f.data.length ∧ f.data.length ≤ 1099511627776) (hc : ∀ i, c.made = some i → i < fs.length) (hd : OkDir fs.length (mkD m.now c)) :
    WFD { doCh m c with files := fs } := by
  refine ⟨?_, fun k => ?_, fun c' hc' => ?_, hs, h.size⟩
  · show mkD m.now c = replay m.syn (m.chs ++ [c])
    rw [replay_snoc, ← h.now]
  · show OkDir fs.length (replay m.syn ((m.chs ++ [c]).take k))
    by_cases hk : k ≤ m.chs.length
    · rw [List.take_append_of_le_length hk]
      exact (h.dirs k).mono hfs
    · rw [List.take_of_length_le (by simp; omega), replay_snoc, ← h.now]
      exact hd
  · rcases List.mem_append.1 hc' with h1 | h1
    · exact fun i hi => Nat.lt_of_lt_of_le (h.made c' h1 i hi) hfs
    · simp at h1; rw [h1]; exact hc
theorem stepM_cases (m : DiskM) : ∃ (s : Nat) (d : Bool) (a : Option Nat) (f : List Nat), (stepM m).1 = { m with steps := s, down := d, arm := a, fails := f } := by
  unfold stepM
  split
  · exact ⟨m.steps, true, m.arm, m.fails, by cases m; rfl⟩
  · split
    · rename_i h; exact ⟨_, m.down, _, [], by rw [← h]⟩
    · rename_i r h; exact ⟨_, m.down, _, _, rfl⟩
    · rename_i k r h; exact ⟨_, m.down, _, _, rfl⟩
theorem WFD.upd {m : DiskM} (h : WFD m) (s : Nat) (d : Bool) (a : Option Nat) (f : List Nat) : WFD { m with steps := s, down := d, arm := a, fails := f } := ⟨h.now, h.dirs, h.made, h.syn, h.size⟩
theorem WFD.step {m : DiskM} (h : WFD m) : WFD (stepM m).1 := by
  obtain ⟨s, d, a, f, e⟩ := stepM_cases m
  rw [e]; exact h.upd s d a f

open Go Sx
set_option maxRecDepth 8000

/-- A file in memory: its block, its row. -/
structure FR where
  g : Nat
  a : Option Addr
  c : Nat
  data : List UInt8
  syn : Nat
def FR.m (f : FR) : FileM := ⟨f.data, f.syn⟩
def FR.val (f : FR) : Value := .slice f.a f.data.length f.c
def FR.blk (f : FR) : Res := .arr f.g 128 [f.val, .int .i64 (f.syn : Int)]
def FR.row (f : FR) : Res := .row 5 1 f.val f.data.length (bv f.data)
def DR (FL : List FR) (N : List Res) : List Res := FL.map FR.blk ++ (FL.map FR.row ++ N)

def ptrV (gs : List Nat) (i : Nat) : Value := .pointer (some ⟨gs.getD i 0, 0, none⟩)
def chC (gs : List Nat) (c : ChM) : List Value := [match c.made with | some i => ptrV gs i | none => .pointer none, strV c.fr, strV c.to]
def niv (l : List Nat) : List Value := l.map fun x : Nat => Value.int .i64 (x : Int)

/-- The numbers of steps that are to fail, in memory. -/
structure FailsR (fl : List Nat) (fa : Option Addr) (fn fc : Nat) (F : Res) : Prop where
  len : fl.length = fn
  le : fn ≤ fc
  at_ : fn = 0 ∨ ∃ gf k L, fa = some ⟨gf, k, none⟩ ∧ F = .arr gf 3 L ∧ (L.drop k).take fn = niv fl
  bd : ∀ x ∈ fl, x ≤ 9223372036854775807

/-- Where the parts of a disk lie. -/
structure DP where
  av : Int
  fa : Option Addr
  fn : Nat
  fc : Nat
  gn : Nat
  gs : Nat
  ca : Option Addr
  cc : Nat
  FL : List FR
  F : Res
  esn : Array MapEntry
  ckn : Nat
  Mn : Dir
  ess : Array MapEntry
  cks : Nat
  Ms : Dir
def DP.ps (p : DP) : List Nat := p.FL.map FR.g
abbrev kyE (e : Ent) : Value := strV e.name
abbrev vlE (gs : List Nat) (e : Ent) : Value := ptrV gs e.file
structure DOk (m : DiskM) (p : DP) : Prop where
  wf : WFD m
  files : p.FL.map FR.m = m.files
  arm : ∀ k, m.arm = some k → p.av = (k : Int) ∧ k ≤ 9223372036854775807
  fails : FailsR m.fails p.fa p.fn p.fc p.F
  mapn : MapE kyE (vlE p.ps) p.esn p.ckn p.Mn
  isn : MapIsA Ent.name p.Mn m.now
  maps : MapE kyE (vlE p.ps) p.ess p.cks p.Ms
  iss : MapIsA Ent.name p.Ms m.syn
def dskL (m : DiskM) (p : DP) : List Value := [.int .i64 (m.steps : Int), .bool m.down, .bool m.arm.isSome, .int .i64 p.av, .slice p.fa p.fn p.fc, .int .i64 m.size, .map (some p.gn), .map (some p.gs), .slice p.ca m.chs.length p.cc]
def resD (gd : Nat) (m : DiskM) (p : DP) : List Res := [.arr gd 117 (dskL m p), .blk p.gn (.map p.esn p.ckn), .blk p.gs (.map p.ess p.cks), .row 123 3 (.slice p.ca m.chs.length p.cc) m.chs.length (m.chs.flatMap (chC p.ps)), p.F]
/-- A disk that is held; ps: where its files' blocks lie. -/
def DiskIn (w0 : World) (X : List Nat) (w : World) (gd : Nat) (ps : List Nat) (m : DiskM) (N : List Res) : Prop := ∃ p, p.ps = ps ∧ DOk m p ∧ St w0 X w (resD gd m p ++ DR p.FL N)

section
variable {w0 w w' : World} {X : List Nat} {N N' : List Res} {gd : Nat} {ps : List Nat} {m : DiskM}

theorem DiskIn.same (h : DiskIn w0 X w gd ps m N) (hc : Chg [] w w') : DiskIn w0 X w' gd ps m N := by obtain ⟨p, hps, hp, hS⟩ := h; exact ⟨p, hps, hp, hS.same hc⟩
theorem DiskIn.chg (h : DiskIn w0 X w gd ps m N) : Chg X w0 w := by obtain ⟨p, _, hp, hS⟩ := h; exact hS.chg
theorem DiskIn.wf (h : DiskIn w0 X w gd ps m N) : WFD m := by obtain ⟨p, _, hp, hS⟩ := h; exact hp.wf
/-- What is held besides: it is in the state too. -/
theorem DiskIn.rest (h : DiskIn w0 X w gd ps m N) : St w0 X w N := by
  obtain ⟨p, hps, hp, hS⟩ := h
  exact hS.sub (((List.sublist_append_right _ _).trans (List.sublist_append_right _ _)).trans (List.sublist_append_right _ _))

/-- A cell of a disk. -/
theorem DiskIn.cell {p : DP} (hS : St w0 X w (resD gd m p ++ DR p.FL N)) {i : Nat} {v : Value} {T : TypeId} (hT : (isAgg T).run Tryz.prog w = .ok false w) (hv : (dskL m p)[i]? = some v) : (Instr.loadAt T (.pointer (some ⟨gd, i, none⟩))).run Tryz.prog w = .ok v w :=
  hS.ldL (i := 0) (o := i) rfl hT rfl hv

/-- A file of a disk. -/
theorem DOk.file {p : DP} (hp : DOk m p) {i : Nat} (hi : i < m.files.length) : ∃ f, p.FL[i]? = some f ∧ p.ps.getD i 0 = f.g ∧ fileAt m.files i = ⟨f.data, f.syn⟩ := by
  have hl : p.FL.length = m.files.length := by have := congrArg List.length hp.files; simpa using this
  have hf : p.FL[i]? = some p.FL[i] := List.getElem?_eq_getElem (by omega)
  refine ⟨p.FL[i], hf, ?_, ?_⟩
  · simp [DP.ps, List.getD, show i < p.FL.length by omega]
  · rw [← hp.files]
    simp [fileAt, List.getD, show i < p.FL.length by omega, FR.m]

end

section
variable {w0 w w' : World} {X : List Nat} {N N' T T' : List Res} {gd : Nat} {ps : List Nat} {m : DiskM}

theorem DiskIn.addSt (h : DiskIn w0 X w gd ps m N) (h' : St w [] w' T) : DiskIn w0 X w' gd ps m (N ++ T) := by
  obtain ⟨p, hps, hp, hS⟩ := h
  refine ⟨p, hps, hp, ?_⟩
  have h1 : St w0 X w' ((resD gd m p ++ DR p.FL N) ++ T) := Sx.St.callPart (N := []) (by rw [List.append_nil]; exact hS) h'
  have e : (resD gd m p ++ DR p.FL N) ++ T = resD gd m p ++ DR p.FL (N ++ T) := by simp [DR, List.append_assoc]
  rw [← e]; exact h1

theorem DiskIn.under (k : St w0 X w N) (h : DiskIn w [] w' gd ps m []) : DiskIn w0 X w' gd ps m N := by
  obtain ⟨p, hps, hp, hS⟩ := h
  have h1 := Sx.St.callPart (M := N) (N := []) (by rw [List.append_nil]; exact k) hS
  refine ⟨p, hps, hp, h1.perm ?_⟩
  have e : resD gd m p ++ DR p.FL N = (resD gd m p ++ DR p.FL []) ++ N := by simp [DR, List.append_assoc]
  rw [e]
  exact List.perm_append_comm
end

theorem DiskIn.base {w w0 w' : World} {gd : Nat} {ps : List Nat} {m : DiskM} {N : List Res} (h : DiskIn w0 [] w' gd ps m N) (hc : Chg [] w w0) : DiskIn w [] w' gd ps m N := by
  obtain ⟨p, hps, hp, hS⟩ := h
  have h0 : St w [] w0 ([] ++ []) := (St.start w).same hc
  exact ⟨p, hps, hp, by have := Sx.St.callPart (M := []) (N := []) h0 hS; simpa using this⟩

open Go Sx
set_option maxRecDepth 8000

section
variable {w0 w w' : World} {X : List Nat} {N N' : List Res} {gd : Nat} {ps : List Nat} {m : DiskM}

theorem DOk.upd {p : DP} (hp : DOk m p) (s : Nat) (d : Bool) (a : Option Nat) (f : List Nat) {av : Int} {fa : Option Addr} {fn fc : Nat} {F : Res} (ha : ∀ k, a = some k → av = (k : Int) ∧ k ≤ 9223372036854775807) (hf : FailsR f fa fn fc F) :
    DOk { m with steps := s, down := d, arm := a, fails := f } { p with av := av, fa := fa, fn := fn, fc := fc, F := F } :=
  ⟨hp.wf.upd s d a f, hp.files, ha, hf, hp.mapn, hp.isn, hp.maps, hp.iss⟩

end

open Go Sx
set_option maxRecDepth 8000

section
variable {w0 w w' : World} {X : List Nat} {N N' : List Res} {gd : Nat} {ps : List Nat} {m : DiskM}

end

open Go Sx
set_option maxRecDepth 8000

section
variable {w0 w w' : World} {X : List Nat} {N N' : List Res} {gd : Nat} {ps : List Nat} {m : DiskM}

/-- The same disk, its files told anew. -/
theorem WFD.files (h : WFD m) {fs : List FileM} (hl : fs.length = m.files.length) (hs : ∀ f ∈ fs, f.syn ≤ f.data.length ∧ f.data.length ≤ 1099511627776) : WFD { m with files := fs } :=
  ⟨h.now, fun k => by show OkDir fs.length _; rw [hl]; exact h.dirs k, fun c hc i hi => by show i < fs.length; rw [hl]; exact h.made c hc i hi, hs, h.size⟩
end

open Go Sx
set_option maxRecDepth 8000

section
variable {w0 w w' : World} {X : List Nat} {N N' : List Res} {gd : Nat} {ps : List Nat} {m : DiskM}

theorem DOk.change {p : DP} (hp : DOk m p) (c : ChM) (hc : c.made = none) (hto : c.to = [] ∨ goodN c.to = true) {es : Array MapEntry} {ck : Nat} {Mn : Dir} (hE : MapE kyE (vlE p.ps) es ck Mn) (hD : MapIsA Ent.name Mn (mkD m.now c)) (ca : Option Addr) (cc : Nat) : DOk (doCh m c) { p with esn := es, ckn := ck, Mn := Mn, ca := ca, cc := cc } := by
  have hn := hp.wf.okNow
  have hok : OkDir m.files.length (mkD m.now c) := by
    unfold mkD
    rw [hc]
    cases hf : findD m.now c.fr with
    | none => exact hn
    | some e =>
      obtain ⟨h1, h2⟩ := findA_mem hf
      simp only
      split
      · exact hn.del _
      · rename_i hne
        refine (hn.del c.fr).ins (hn.ent e h1).1 (hto.resolve_left hne) (.inl ?_) fun x hx hxn hfe => ?_
        · have := delA_len_in hf; have := hn.len; omega
        · obtain ⟨h3, h4⟩ := mem_delA.1 hx
          have := hn.inj' h3 h1 hfe
          rw [this] at h4
          exact h4 h2
  exact ⟨hp.wf.snoc (Nat.le_refl _) hp.wf.syn (fun i hi => by rw [hc] at hi; cases hi) hok, hp.files, hp.arm, hp.fails, hE, hD, hp.maps, hp.iss⟩

end

open Go Sx
set_option maxRecDepth 8000

section
variable {w0 w w' : World} {X : List Nat} {N N' : List Res} {gd : Nat} {ps : List Nat} {m : DiskM}

/-- What settling, Files and Crash need of a disk. -/
structure DMem (m : DiskM) (p : DP) : Prop where
  okn : OkDir m.files.length m.now
  fsyn : ∀ f ∈ m.files, f.syn ≤ f.data.length ∧ f.data.length ≤ 1099511627776
  size : 0 ≤ m.size ∧ m.size ≤ 67108864
  files : p.FL.map FR.m = m.files
  arm : ∀ k, m.arm = some k → p.av = (k : Int) ∧ k ≤ 9223372036854775807
  fails : FailsR m.fails p.fa p.fn p.fc p.F
  mapn : MapE kyE (vlE p.ps) p.esn p.ckn p.Mn
  isn : MapIsA Ent.name p.Mn m.now
end

open Go Sx
set_option maxRecDepth 8000

section
variable {w0 w w' : World} {X : List Nat} {N N' : List Res} {gd : Nat} {ps : List Nat} {m : DiskM}

end

open Go Sx Go.RowKit Go.Maps Go.Sort Go.Shelf
set_option maxRecDepth 8000

section
variable {w0 w w' : World} {X : List Nat} {N N' : List Res} {gd : Nat} {ps : List Nat} {m : DiskM}

end

end Go.Proofs.YtmdandkoajocpaaGreatDoor
end

section
namespace Go.Proofs.YtmdandkoajocpaaGreatDoor
open Go Sx
set_option maxRecDepth 8000

def PTab (w : World) : Prop := Lib.TabIs Tryz.prog w "internal/strconv.uint64pow10" .u64 Lib.pow10Tab
theorem PTab.keep0 {w w' : World} (h : PTab w) (hc : Chg [] w w') : PTab w' := by
  have hg : Tryz.prog.globalNamed "internal/strconv.uint64pow10" = some 2 := by kernel_rfl
  unfold PTab Lib.TabIs World.var? at *
  rw [hg] at h ⊢
  simp only [Option.bind_some] at h ⊢
  cases hh : w.heap[2]? with
  | none => rw [hh] at h; simp at h
  | some o =>
    have hlt := (Array.getElem?_eq_some_iff.1 hh).1
    rw [hc.block _ hlt (by simp), hh]
    rw [hh] at h
    exact h

theorem grow_chg (w : World) (q : Nat) (os : Array Obj) : Chg [] w (Sort.grow (w.drewN q) os) := ⟨rfl, rfl, rfl, by simp [Sort.grow, World.drewN], fun k hk _ => by simp [Sort.grow, World.drewN, Array.getElem?_append_left hk]⟩

def nameP (num : Int) : Nm := 112 :: Lib.itoa num
theorem itoa_spec (num : Int) (h : -9223372036854775808 ≤ num ∧ num ≤ 9223372036854775807) (w : World) (hT : PTab w) : Calls Tryz.prog 44 #[.int .i64 num] w fun e w' => e = .returned (.string ⟨(Lib.itoa num).toArray⟩) ∧ Chg [] w w' := by
  refine Calls.mono (Any.strconv_Itoa laysItoa num h.1 h.2 w hT) ?_
  rintro e w' ⟨rfl, q, os, rfl⟩
  exact ⟨rfl, grow_chg w q os⟩

theorem addS (a b : ByteArray) (x y : Operand) (w : World) (h : (a.size : Int) + (b.size : Int) ≤ 9223372036854775807) : (eqlS .add 9 x y (.string a) (.string b)).run Tryz.prog w = .ok (.string (a ++ b)) w := by
  simp [eqlS, eqGuard, binOp, Op.stringOp, h]

theorem pkname_spec (num : Int) (w : World) (hT : PTab w) (hg : goodP num = true) : Calls Tryz.prog 19 #[.int .i64 num] w fun e w' => e = .returned (strV (nameP num)) ∧ Chg [] w w' := by
  have h := goodP_iff.1 hg
  apply pack_Name_vc
  refine (pkgood_spec num w).mono ?_
  rintro e w1 ⟨rfl, rfl⟩
  rw [hg]
  refine ⟨_, rfl, fun h => (by cases h), fun _ => (itoa_spec num (by omega) w1 hT).mono ?_⟩
  rintro e w2 ⟨rfl, c2⟩
  have hsz : ((ByteArray.mk #[112]).size : Int) + ((ByteArray.mk (Lib.itoa num).toArray).size : Int) ≤ 9223372036854775807 := by
    have := Lib.itoa_length_le num (by omega) (by omega)
    have e1 : (ByteArray.mk (Lib.itoa num).toArray).size = (Lib.itoa num).length := by simp [ByteArray.size]
    have e2 : (ByteArray.mk #[112]).size = 1 := rfl
    rw [e1, e2]
    omega
  refine ⟨_, rfl, _, addS _ _ _ _ _ hsz, ?_, c2⟩
  have e : (ByteArray.mk #[112] ++ ByteArray.mk (Lib.itoa num).toArray) = ByteArray.mk (112 :: Lib.itoa num).toArray := by
    apply ByteArray.ext
    simp [ByteArray.data_append]
  exact congrArg (fun b => Ending.returned (.string b)) e

end Go.Proofs.YtmdandkoajocpaaGreatDoor
end

section
namespace Go.Proofs.YtmdandkoajocpaaGreatDoor
open Go Sx
set_option maxRecDepth 8000

theorem parse_snoc : ∀ (l : List UInt8) (acc v : Nat), Lib.parseUint10 acc l = .ok v → ∀ c : UInt8, 48 ≤ c.toNat → c.toNat ≤ 57 → v < 1844674407370955162 → v * 10 + (c.toNat - 48) < 18446744073709551616 → Lib.parseUint10 acc (l ++ [c]) = .ok (v * 10 + (c.toNat - 48))
  | [], acc, v, h, c, h1, h2, h3, h4 => by
    simp only [Lib.parseUint10] at h
    injection h with h
    subst h
    simp only [List.nil_append, Lib.parseUint10]
    rw [if_pos ⟨h1, h2⟩, if_neg (by omega), if_neg (by omega)]
  | b :: l, acc, v, h, c, h1, h2, h3, h4 => by
    simp only [Lib.parseUint10] at h
    simp only [List.cons_append, Lib.parseUint10]
    split at h
    · rename_i hb
      rw [if_pos hb]
      split at h
      · cases h
      · rename_i ha
        rw [if_neg ha]
        split at h
        · cases h
        · rename_i hc
          rw [if_neg hc]
          exact parse_snoc l _ v h c h1 h2 h3 h4
    · cases h
theorem dig_nat {k : Nat} (h : k < 10) : (UInt8.ofNat (48 + k)).toNat = 48 + k := by rw [UInt8.toNat_ofNat']; omega
theorem parse_dec : ∀ u : Nat, u < 9223372036854775808 → Lib.parseUint10 0 (Lib.decDigits u) = .ok u := by
  intro u
  induction u using Nat.strongRecOn with
  | ind u ih =>
    intro hu
    rw [Lib.decDigits]
    split
    · rename_i h
      have := parse_snoc [] 0 0 rfl (UInt8.ofNat (48 + u)) (by rw [dig_nat h]; omega) (by rw [dig_nat h]; omega) (by omega) (by rw [dig_nat h]; omega)
      rw [List.nil_append, dig_nat h] at this
      rw [this]
      congr 1; omega
    · rename_i h
      have hm : u % 10 < 10 := Nat.mod_lt _ (by decide)
      have := parse_snoc (Lib.decDigits (u / 10)) 0 (u / 10) (ih (u / 10) (by omega) (by omega)) (UInt8.ofNat (48 + u % 10)) (by rw [dig_nat hm]; omega) (by rw [dig_nat hm]; omega) (by omega) (by rw [dig_nat hm]; omega)
      rw [dig_nat hm] at this
      rw [this]
      congr 1; omega
theorem dec_ne (u : Nat) : Lib.decDigits u ≠ [] := by
  rw [Lib.decDigits]
  split <;> simp
theorem dec_byte : ∀ (u : Nat), ∀ b ∈ Lib.decDigits u, 48 ≤ b.toNat ∧ b.toNat ≤ 57 := by
  intro u
  induction u using Nat.strongRecOn with
  | ind u ih =>
    intro b hb
    rw [Lib.decDigits] at hb
    split at hb
    · rename_i h
      simp only [List.mem_singleton] at hb
      subst hb
      rw [dig_nat h]; omega
    · rcases List.mem_append.1 hb with hb | hb
      · exact ih (u / 10) (by omega) b hb
      · simp only [List.mem_singleton] at hb
        subst hb
        rw [dig_nat (Nat.mod_lt _ (by decide))]; omega
theorem atoi_dec {u : Nat} (hu : u < 9223372036854775808) : Lib.atoiAll (Lib.decDigits u) = .ok (u : Int) := by
  have hp := parse_dec u hu
  have hb := dec_byte u
  have hn := dec_ne u
  revert hp hb hn
  generalize Lib.decDigits u = l
  intro hp hb hn
  cases l with
  | nil => exact absurd rfl hn
  | cons c r =>
    have hc := hb c (by simp)
    have h1 : ¬ (c.toNat = 43 ∨ c.toNat = 45) := by omega
    have h2 : ¬ c.toNat = 45 := by omega
    have hm : Lib.parseMag (c :: r) = .ok u := by unfold Lib.parseMag; rw [if_neg (by simp)]; exact hp
    have hu2 : ¬ (9223372036854775808 ≤ u) := by omega
    unfold Lib.atoiAll
    dsimp only
    rw [if_neg h1, hm]
    simp only [h2, hu2, if_false, not_false_eq_true, true_and, false_and]
theorem itoa_nat (u : Nat) : Lib.itoa (u : Int) = Lib.decDigits u := Lib.itoa_nonneg u
theorem atoi_itoa {n : Int} (h0 : 0 ≤ n) (h1 : n ≤ 9223372036854775807) : Lib.atoiAll (Lib.itoa n) = .ok n := by
  obtain ⟨u, rfl⟩ : ∃ u : Nat, n = (u : Int) := ⟨n.toNat, by omega⟩
  rw [itoa_nat]
  exact atoi_dec (by omega)

/-- What digits say, without an end. -/
def foldD (l : List UInt8) : Nat := l.foldl (fun n c => 10 * n + (c.toNat - 48)) 0
theorem foldD_snoc (l : List UInt8) (c : UInt8) : foldD (l ++ [c]) = 10 * foldD l + (c.toNat - 48) := by simp [foldD]
theorem foldD_dec : ∀ u : Nat, foldD (Lib.decDigits u) = u := by
  intro u
  induction u using Nat.strongRecOn with
  | ind u ih =>
    rw [Lib.decDigits]
    split
    · rename_i h
      have := foldD_snoc [] (UInt8.ofNat (48 + u))
      rw [List.nil_append, dig_nat h] at this
      rw [this]; simp [foldD]
    · rw [foldD_snoc, ih (u / 10) (by omega), dig_nat (Nat.mod_lt _ (by decide))]; omega
theorem foldl_lt : ∀ (l : List UInt8) (a : Nat), (∀ b ∈ l, 48 ≤ b.toNat ∧ b.toNat ≤ 57) → l.foldl (fun n c => 10 * n + (c.toNat - 48)) a < (a + 1) * 10 ^ l.length
  | [], a, _ => by simp
  | c :: l, a, h => by
    have h1 := foldl_lt l (10 * a + (c.toNat - 48)) fun b hb => h b (by simp [hb])
    have h2 := h c (by simp)
    rw [List.foldl_cons, List.length_cons, Nat.pow_succ]
    have h3 : (10 * a + (c.toNat - 48) + 1) * 10 ^ l.length ≤ (a + 1) * 10 * 10 ^ l.length := Nat.mul_le_mul_right _ (by omega)
    have h4 : (a + 1) * 10 * 10 ^ l.length = (a + 1) * (10 ^ l.length * 10) := by rw [Nat.mul_assoc, Nat.mul_comm 10]
    omega
theorem foldD_lt (l : List UInt8) (h : ∀ b ∈ l, 48 ≤ b.toNat ∧ b.toNat ≤ 57) : foldD l < 10 ^ l.length := by
  have := foldl_lt l 0 h
  rw [Nat.zero_add, Nat.one_mul] at this
  exact this
theorem dec_len : ∀ (k u : Nat), u < 10 ^ (k + 1) → (Lib.decDigits u).length ≤ k + 1
  | 0, u, h => by rw [Lib.decDigits, dif_pos (by simpa using h)]; simp
  | k + 1, u, h => by
    rw [Lib.decDigits]
    split
    · simp
    · rw [List.length_append, List.length_singleton]
      rw [Nat.pow_succ] at h
      have := dec_len k (u / 10) (by omega)
      omega

def nameD (c : UInt8) (n : Int) : List UInt8 := c :: Lib.itoa n
/-- The number that a name has among those from lo to hi. -/
def numO (c : UInt8) (lo hi : Int) (s : List UInt8) : Option Int := match s with
  | [] => none
  | _ :: r => match Lib.atoiAll r with
    | .ok v => if lo ≤ v ∧ v ≤ hi ∧ nameD c v = s then some v else none
    | _ => none
theorem numO_iff {c : UInt8} {lo hi : Int} (h0 : 0 ≤ lo) (h1 : hi ≤ 9223372036854775807) {s : List UInt8} {v : Int} : numO c lo hi s = some v ↔ lo ≤ v ∧ v ≤ hi ∧ nameD c v = s := by
  constructor
  · intro h
    unfold numO at h
    split at h
    · cases h
    · split at h
      · split at h
        · rename_i hc
          obtain rfl := Option.some.inj h
          exact hc
        · cases h
      · cases h
  · rintro ⟨a, b, rfl⟩
    unfold numO nameD
    simp only [atoi_itoa (by omega : 0 ≤ v) (by omega)]
    rw [if_pos ⟨a, b, trivial⟩]
theorem numO_none {c : UInt8} {lo hi : Int} (h0 : 0 ≤ lo) (h1 : hi ≤ 9223372036854775807) {s : List UInt8} (h : ∀ v, lo ≤ v → v ≤ hi → nameD c v ≠ s) : numO c lo hi s = none := by
  cases hn : numO c lo hi s with
  | none => rfl
  | some v => obtain ⟨a, b, d⟩ := (numO_iff h0 h1).1 hn; exact absurd d (h v a b)
/-- What a name of a number that is not too great looks like. -/
theorem nameD_form {c : UInt8} {v : Int} (h0 : 0 ≤ v) (h1 : v ≤ 1099511627776) : ∃ r, nameD c v = c :: r ∧ r ≠ [] ∧ r.length ≤ 13 ∧ (∀ b ∈ r, 48 ≤ b.toNat ∧ b.toNat ≤ 57) ∧ (foldD r : Int) = v := by
  obtain ⟨u, rfl⟩ : ∃ u : Nat, v = (u : Int) := ⟨v.toNat, by omega⟩
  refine ⟨Lib.decDigits u, by rw [nameD, itoa_nat], dec_ne u, dec_len 12 u (by omega), dec_byte u, by rw [foldD_dec]⟩

end Go.Proofs.YtmdandkoajocpaaGreatDoor
end

section
namespace Go.Proofs.YtmdandkoajocpaaGreatDoor
open Go.Shelf
def laysAtoi_ren : Go.Shelf.Ren := ⟨fun | 172 => 42 | 244 => 78 | 245 => 79 | 247 => 108 | 279 => 109 | 280 => 110 | 281 => 111 | 282 => 112 | 287 => 128 | 316 => 129 | 171 => 44 | 205 => 130 | 321 => 149 | 322 => 150 | 243 => 80 | 246 => 113 | 283 => 131 | 284 => 132 | 285 => 133 | 286 => 134 | 129 => 152 | 317 => 151 | 318 => 153 | 319 => 154 | 320 => 155 | 337 => 173 | 338 => 174 | n => n, fun | 9 => 9 | 3 => 3 | 75 => 36 | 76 => 109 | 4 => 4 | 5 => 5 | 167 => 189 | 37 => 33 | 0 => 0 | 85 => 190 | 2 => 2 | 168 => 192 | 53 => 177 | 175 => 210 | 46 => 199 | 210 => 214 | 127 => 239 | 145 => 242 | 143 => 240 | 21 => 21 | 171 => 215 | 173 => 218 | 212 => 244 | 51 => 209 | 20 => 20 | 213 => 245 | 232 => 22 | 233 => 207 | 80 => 281 | n => n, fun | 15 => 0 | 16 => 1 | 17 => 2 | 18 => 3 | 19 => 4 | n => n⟩
theorem laysAtoi : Go.Proofs.LaysC.n172 Tryz.prog laysAtoi_ren := {
  mixed := by kernel_rfl
  f129 := Tryz.func152.trans (congrArg some (by kernel_rfl))
  f171 := Tryz.func44.trans (congrArg some (by kernel_rfl))
  f172 := Tryz.func42.trans (congrArg some (by kernel_rfl))
  f205 := Tryz.func130.trans (congrArg some (by kernel_rfl))
  f243 := Tryz.func80.trans (congrArg some (by kernel_rfl))
  f244 := Tryz.func78.trans (congrArg some (by kernel_rfl))
  f245 := Tryz.func79.trans (congrArg some (by kernel_rfl))
  f246 := Tryz.func113.trans (congrArg some (by kernel_rfl))
  f247 := Tryz.func108.trans (congrArg some (by kernel_rfl))
  f279 := Tryz.func109.trans (congrArg some (by kernel_rfl))
  f280 := Tryz.func110.trans (congrArg some (by kernel_rfl))
  f281 := Tryz.func111.trans (congrArg some (by kernel_rfl))
  f282 := Tryz.func112.trans (congrArg some (by kernel_rfl))
  f283 := Tryz.func131.trans (congrArg some (by kernel_rfl))
  f284 := Tryz.func132.trans (congrArg some (by kernel_rfl))
  f285 := Tryz.func133.trans (congrArg some (by kernel_rfl))
  f286 := Tryz.func134.trans (congrArg some (by kernel_rfl))
  f287 := Tryz.func128.trans (congrArg some (by kernel_rfl))
  f316 := Tryz.func129.trans (congrArg some (by kernel_rfl))
  f317 := Tryz.func151.trans (congrArg some (by kernel_rfl))
  f318 := Tryz.func153.trans (congrArg some (by kernel_rfl))
  f319 := Tryz.func154.trans (congrArg some (by kernel_rfl))
  f320 := Tryz.func155.trans (congrArg some (by kernel_rfl))
  f321 := Tryz.func149.trans (congrArg some (by kernel_rfl))
  f322 := Tryz.func150.trans (congrArg some (by kernel_rfl))
  f337 := Tryz.func173.trans (congrArg some (by kernel_rfl))
  f338 := Tryz.func174.trans (congrArg some (by kernel_rfl))
  t0 := Tryz.underlying0
  a0 := Tryz.isAgg0
  z0 := Tryz.sizeOf0
  v0 := Tryz.zeroValue0
  t2 := Tryz.underlying2
  a2 := Tryz.isAgg2
  z2 := Tryz.sizeOf2
  v2 := Tryz.zeroValue2
  t3 := Tryz.underlying3
  a3 := Tryz.isAgg3
  z3 := Tryz.sizeOf3
  v3 := Tryz.zeroValue3
  t4 := Tryz.underlying4
  a4 := Tryz.isAgg4
  z4 := Tryz.sizeOf4
  v4 := Tryz.zeroValue4
  t5 := Tryz.underlying5
  a5 := Tryz.isAgg5
  z5 := Tryz.sizeOf5
  v5 := Tryz.zeroValue5
  t9 := Tryz.underlying9
  a9 := Tryz.isAgg9
  z9 := Tryz.sizeOf9
  v9 := Tryz.zeroValue9
  t20 := Tryz.underlying20
  a20 := Tryz.isAgg20
  z20 := Tryz.sizeOf20
  v20 := Tryz.zeroValue20
  t21 := Tryz.underlying21
  a21 := Tryz.isAgg21
  z21 := Tryz.sizeOf21
  v21 := Tryz.zeroValue21
  t37 := Tryz.underlying33
  a37 := Tryz.isAgg33
  z37 := Tryz.sizeOf33
  v37 := Tryz.zeroValue33
  t46 := Tryz.underlying199
  a46 := Tryz.isAgg199
  z46 := Tryz.sizeOf199
  v46 := Tryz.zeroValue199
  t51 := Tryz.underlying209
  a51 := Tryz.isAgg209
  z51 := Tryz.sizeOf209
  v51 := Tryz.zeroValue209
  t53 := Tryz.underlying177
  a53 := Tryz.isAgg177
  z53 := Tryz.sizeOf177
  v53 := Tryz.zeroValue177
  t75 := Tryz.underlying36
  a75 := Tryz.isAgg36
  z75 := Tryz.sizeOf36
  v75 := Tryz.zeroValue36
  t76 := Tryz.underlying109
  a76 := Tryz.isAgg109
  z76 := Tryz.sizeOf109
  v76 := Tryz.zeroValue109
  t85 := Tryz.underlying190
  a85 := Tryz.isAgg190
  z85 := Tryz.sizeOf190
  v85 := Tryz.zeroValue190
  t127 := Tryz.underlying239
  a127 := Tryz.isAgg239
  z127 := Tryz.sizeOf239
  v127 := Tryz.zeroValue239
  t143 := Tryz.underlying240
  a143 := Tryz.isAgg240
  z143 := Tryz.sizeOf240
  v143 := Tryz.zeroValue240
  t145 := Tryz.underlying242
  a145 := Tryz.isAgg242
  z145 := Tryz.sizeOf242
  v145 := Tryz.zeroValue242
  t167 := Tryz.underlying189
  a167 := Tryz.isAgg189
  z167 := Tryz.sizeOf189
  v167 := Tryz.zeroValue189
  t168 := Tryz.underlying192
  a168 := Tryz.isAgg192
  z168 := Tryz.sizeOf192
  v168 := Tryz.zeroValue192
  t171 := Tryz.underlying215
  a171 := Tryz.isAgg215
  z171 := Tryz.sizeOf215
  v171 := Tryz.zeroValue215
  t173 := Tryz.underlying218
  a173 := Tryz.isAgg218
  z173 := Tryz.sizeOf218
  v173 := Tryz.zeroValue218
  t175 := Tryz.underlying210
  a175 := Tryz.isAgg210
  z175 := Tryz.sizeOf210
  v175 := Tryz.zeroValue210
  t210 := Tryz.underlying214
  a210 := Tryz.isAgg214
  z210 := Tryz.sizeOf214
  v210 := Tryz.zeroValue214
  t212 := Tryz.underlying244
  a212 := Tryz.isAgg244
  z212 := Tryz.sizeOf244
  v212 := Tryz.zeroValue244
  t213 := Tryz.underlying245
  a213 := Tryz.isAgg245
  z213 := Tryz.sizeOf245
  t232 := Tryz.underlying22
  a232 := Tryz.isAgg22
  z232 := Tryz.sizeOf22
  v232 := Tryz.zeroValue22
  t233 := Tryz.underlying207
  a233 := Tryz.isAgg207
  z233 := Tryz.sizeOf207
  v233 := Tryz.zeroValue207
  g15 := by kernel_rfl
  g16 := by kernel_rfl
  g17 := by kernel_rfl
  g18 := by kernel_rfl
  g19 := by kernel_rfl
  t80 := Tryz.underlying281
  a80 := Tryz.isAgg281
  z80 := Tryz.sizeOf281
  v80 := Tryz.zeroValue281
  i0 := by kernel_rfl
  i2 := by kernel_rfl
  i3 := by kernel_rfl
  i4 := by kernel_rfl
  i5 := by kernel_rfl
  i9 := by kernel_rfl
  i20 := by kernel_rfl
  i21 := by kernel_rfl
  i37 := by kernel_rfl
  i46 := by kernel_rfl
  i51 := by kernel_rfl
  i53 := by kernel_rfl
  i75 := by kernel_rfl
  i76 := by kernel_rfl
  i80 := by kernel_rfl
  i85 := by kernel_rfl
  i127 := by kernel_rfl
  i143 := by kernel_rfl
  i145 := by kernel_rfl
  i167 := by kernel_rfl
  i168 := by kernel_rfl
  i171 := by kernel_rfl
  i173 := by kernel_rfl
  i175 := by kernel_rfl
  i210 := by kernel_rfl
  i212 := by kernel_rfl
  i232 := by kernel_rfl
  i233 := by kernel_rfl
  m15 := by kernel_rfl
  m16 := by kernel_rfl
  m17 := by kernel_rfl
  m18 := by kernel_rfl
  m19 := by kernel_rfl
  c0 := by kernel_rfl
  c2 := by kernel_rfl
  c3 := by kernel_rfl
  c4 := by kernel_rfl
  c5 := by kernel_rfl
  c9 := by kernel_rfl
  c20 := by kernel_rfl
  c21 := by kernel_rfl
  c37 := by kernel_rfl
  c46 := by kernel_rfl
  c51 := by kernel_rfl
  c53 := by kernel_rfl
  c75 := by kernel_rfl
  c76 := by kernel_rfl
  c80 := by kernel_rfl
  c85 := by kernel_rfl
  c127 := by kernel_rfl
  c143 := by kernel_rfl
  c145 := by kernel_rfl
  c167 := by kernel_rfl
  c168 := by kernel_rfl
  c171 := by kernel_rfl
  c173 := by kernel_rfl
  c175 := by kernel_rfl
  c210 := by kernel_rfl
  c212 := by kernel_rfl
  c213 := by kernel_rfl
  c232 := by kernel_rfl
  c233 := by kernel_rfl }
end Go.Proofs.YtmdandkoajocpaaGreatDoor
end

section
namespace Go.Proofs.YtmdandkoajocpaaGreatDoor
open Go Sx
set_option maxRecDepth 8000

/-- strconv's errors are there. -/
def EVar (w : World) : Prop := (∃ t p, w.var? Tryz.prog "strconv.ErrSyntax" = some #[.iface t p]) ∧ ∃ t p, w.var? Tryz.prog "strconv.ErrRange" = some #[.iface t p]
theorem var_keep {w w' : World} {s : String} {x : Array Value} (h : w.var? Tryz.prog s = some x) (hc : Chg [] w w') : w'.var? Tryz.prog s = some x := by
  unfold World.var? at h ⊢
  cases hg : Tryz.prog.globalNamed s with
  | none => rw [hg] at h; cases h
  | some g =>
    rw [hg] at h
    simp only [Option.bind_some] at h ⊢
    cases hh : w.heap[g]? with
    | none => rw [hh] at h; simp at h
    | some o =>
      have hlt := (Array.getElem?_eq_some_iff.1 hh).1
      rw [hc.block _ hlt (by simp), hh]
      rw [hh] at h
      exact h
theorem EVar.keep0 {w w' : World} (h : EVar w) (hc : Chg [] w w') : EVar w' := by
  obtain ⟨⟨t, p, h1⟩, t2, p2, h2⟩ := h
  exact ⟨⟨t, p, var_keep h1 hc⟩, t2, p2, var_keep h2 hc⟩
theorem neqI_nil {T : TypeId} {m} (hT : Tryz.prog.underlying T = some (.interface m)) (U : TypeId) (v : Value) (x : Operand) (w : World) : (eqlS .neq T x (.const .nilIface) (.iface U v) .nilIface).run Tryz.prog w = .ok (.bool true) w := by
  have h2 : ∀ d U v, (Op.equalIn (d + 1) T (.iface U v) .nilIface).run Tryz.prog w = .ok false w := fun d U v => by simp [Op.equalIn, run_underlying hT]
  simp [eqlS, eqGuard, binOp, Op.equal, show Op.maxDepth = 9999 + 1 from rfl, h2 9999]
theorem bytesW_chg (w : World) (e : TypeId) (s : ByteArray) : Chg [] w (Lib.bytesWorld w e s) := by
  unfold Lib.bytesWorld
  have h1 : Chg [] w (w.drew.alloc (.cells (Lib.bytesCells w e s) e)) := (Chg.drew [] w).trans (Chg.alloc _ _)
  have h2 : Chg [w.heap.size] (w.drew.alloc (.cells (Lib.bytesCells w e s) e)) ((w.drew.alloc (.cells (Lib.bytesCells w e s) e)).freeze ⟨w.heap.size, (Lib.bytesCells w e s).size, none⟩ 1) := by
    refine ⟨by simp [World.freeze], by simp [World.freeze], by simp [World.freeze], by simp [World.freeze], fun k _ hk => ?_⟩
    simp only [World.freeze, Nat.succ_ne_zero, if_false, Array.getElem?_modify]
    rw [if_neg (by simpa using fun h => hk (by simp [h]))]
  exact h1.trans' h2 (fun i hi => .inl (by simp at hi; omega))
theorem atoi_spec (l : List UInt8) (hl : l.length ≤ 281474976710656) (w : World) (hE : EVar w) :
    Calls Tryz.prog 42 #[.string ⟨l.toArray⟩] w fun e w' => Chg [] w w' ∧ ((∃ v, Lib.atoiAll l = .ok v ∧ e = .returned (.tuple #[.int .i64 v, .nilIface])) ∨ ((∀ v, Lib.atoiAll l ≠ .ok v) ∧ ∃ v t p, e = .returned (.tuple #[.int .i64 v, .iface t p]))) := by
  have hsz : (⟨l.toArray⟩ : ByteArray).size = l.length := by show l.toArray.size = _; simp
  have hdl : (⟨l.toArray⟩ : ByteArray).data.toList = l := rfl
  obtain ⟨⟨t1, p1, h1⟩, t2, p2, h2⟩ := hE
  cases ha : Lib.atoiAll l with
  | ok v =>
    refine Calls.mono (Any.strconv_Atoi_ok laysAtoi ⟨l.toArray⟩ (by omega) v (by rw [hdl]; exact ha) w) ?_
    rintro e w' ⟨rfl, hw⟩
    refine ⟨?_, .inl ⟨v, rfl, rfl⟩⟩
    rcases hw with rfl | ⟨t, rfl⟩
    · exact Chg.refl _ _
    · exact bytesW_chg _ _ _
  | «syntax» =>
    refine Calls.mono (Any.strconv_Atoi_syntax_var laysAtoi ⟨l.toArray⟩ (by omega) (by rw [hdl]; exact ha) t1 p1 w h1) ?_
    rintro e w' ⟨N, rfl, _, _, hb⟩
    exact ⟨Chg.of_below hb, .inr ⟨fun v h => (by cases h), _, _, _, rfl⟩⟩
  | range =>
    refine Calls.mono (Any.strconv_Atoi_range_var laysAtoi ⟨l.toArray⟩ (by omega) (by rw [hdl]; exact ha) t2 p2 w h2) ?_
    rintro e w' ⟨N, rfl, _, _, hb⟩
    exact ⟨Chg.of_below hb, .inr ⟨fun v h => (by cases h), _, _, _, rfl⟩⟩

theorem addSL (a b : List UInt8) (x y : Operand) (w : World) (h : a.length + b.length ≤ 9223372036854775807) : (eqlS .add 9 x y (.string ⟨a.toArray⟩) (.string ⟨b.toArray⟩)).run Tryz.prog w = .ok (.string ⟨(a ++ b).toArray⟩) w := by
  have h2 : ((⟨a.toArray⟩ : ByteArray).size : Int) + ((⟨b.toArray⟩ : ByteArray).size : Int) ≤ 9223372036854775807 := by
    have e1 : (⟨a.toArray⟩ : ByteArray).size = a.length := by show a.toArray.size = _; simp
    have e2 : (⟨b.toArray⟩ : ByteArray).size = b.length := by show b.toArray.size = _; simp
    omega
  have e : (ByteArray.mk a.toArray ++ ByteArray.mk b.toArray) = ByteArray.mk (a ++ b).toArray := by
    apply ByteArray.ext
    simp [ByteArray.data_append]
  rw [← e]
  simp [eqlS, eqGuard, binOp, Op.stringOp, h2]
theorem emptyS (l : List UInt8) : ((⟨l.toArray⟩ : ByteArray).toList == (ByteArray.mk #[]).toList) = decide (l = []) := by
  rw [ByteArray.toList_eq, ByteArray.toList_eq]
  cases l <;> simp
theorem sameS (l m : List UInt8) : ((⟨l.toArray⟩ : ByteArray).toList == (⟨m.toArray⟩ : ByteArray).toList) = decide (l = m) := by
  rw [ByteArray.toList_eq, ByteArray.toList_eq]
  show (l == m) = decide (l = m)
  by_cases h : l = m <;> simp [h]

/-- amphoranum.Decimal of a number from 0 on. -/
theorem decimal_spec (u : Nat) (hu : u < 9223372036854775808) (w : World) : Calls Tryz.prog 45 #[.int .i64 (u : Int)] w fun e w' => e = .returned (.string ⟨(Lib.decDigits u).toArray⟩) ∧ Chg [] w w' := by
  apply amphoranum_Decimal_vc
  refine ⟨fun h => by simp at h, fun _ => ⟨fun x w' => x = (u : Int) ∧ w' = w, ⟨fun h => by exfalso; simp at h; omega, fun _ => ⟨rfl, rfl⟩⟩, ?_⟩⟩
  rintro x w1 ⟨rfl, rfl⟩
  have hul : (Lib.decDigits u).length ≤ 20 := dec_len 19 u (by omega)
  have big : ∀ n : Nat, ¬ n < 10 → Lib.decDigits n = Lib.decDigits (n / 10) ++ [UInt8.ofNat (48 + n % 10)] := fun n h => by rw [Lib.decDigits, dif_neg h]
  have small : ∀ n : Nat, n < 10 → Lib.decDigits n = [UInt8.ofNat (48 + n % 10)] := fun n h => by rw [Lib.decDigits, dif_pos h, Nat.mod_eq_of_lt h]
  refine ⟨fun x s w' => ∃ (n : Nat) (r : List UInt8), x = (n : Int) ∧ s = ⟨r.toArray⟩ ∧ n ≤ u ∧ ((r = [] ∧ n = u) ∨ (r ≠ [] ∧ ((n = 0 ∧ r = Lib.decDigits u) ∨ (0 < n ∧ Lib.decDigits n ++ r = Lib.decDigits u)))) ∧ Chg [] w1 w', fun x s _ => 2 * x.toNat + if s.toList.isEmpty then 1 else 0, ⟨u, [], rfl, rfl, Nat.le_refl _, .inl ⟨rfl, rfl⟩, Chg.refl _ _⟩, ?_⟩
  rintro x s w2 ⟨n, r, rfl, rfl, hn, hcase, c2⟩
  have hrl : r.length ≤ 20 := by
    rcases hcase with ⟨h, _⟩ | ⟨_, ⟨_, h⟩ | ⟨_, h⟩⟩
    · rw [h]; simp
    · rw [h]; exact hul
    · have := congrArg List.length h; rw [List.length_append] at this; omega
  rw [emptyS]
  refine ⟨fun hgo => ?_, fun hend => ⟨fun h => by exfalso; simp at h; omega, fun _ => ?_⟩⟩
  · have hb : n % 10 < 10 := Nat.mod_lt _ (by decide)
    obtain ⟨b, hbe⟩ : ∃ b : UInt8, UInt8.ofNat (48 + n % 10) = b := ⟨_, rfl⟩
    have hbn : (b.toNat : Int) = 48 + ((n % 10 : Nat) : Int) := by rw [← hbe, dig_nat hb]; omega
    have hx : IntKind.wrap .u8 (IntKind.wrap .i64 (48 + Int.tmod (n : Int) 10)) = (b.toNat : Int) := by
      rw [hbn, Int.tmod_eq_emod_of_nonneg (by omega), wrap_i64 (by omega) (by omega), wrap_u8]; omega
    have hd : IntKind.wrap .i64 (Int.tdiv (n : Int) 10) = ((n / 10 : Nat) : Int) := by
      rw [Int.tdiv_eq_ediv_of_nonneg (by omega), wrap_i64 (by omega) (by omega)]; omega
    obtain ⟨g, w3, r3, k3⟩ := (St.start w2).lit bT (bv [b]) (bv_one _) (by simp)
    have k3 : St w2 [] w3 [.row 5 1 (.slice (some ⟨g, 0, none⟩) 1 1) 1 (bv [b])] := k3
    rw [hx, hd]
    refine ⟨_, _, _, w3, r3, _, toStr bS bE sS (k3.cells (i := 0) rfl) rfl, _, addSL [b] r _ _ w3 (by simp; omega), ⟨n / 10, b :: r, rfl, rfl, by omega, ?_, c2.trans k3.chg⟩, ?_⟩
    · right
      refine ⟨by simp, ?_⟩
      by_cases h10 : n < 10
      · left
        refine ⟨Nat.div_eq_of_lt h10, ?_⟩
        have hs := small n h10
        rw [hbe] at hs
        rcases hcase with ⟨h, hu⟩ | ⟨h0, ⟨hz, _⟩ | ⟨_, h⟩⟩
        · rw [h, ← hu, hs]
        · exfalso; subst hz; simp at hgo; exact h0 hgo
        · rw [hs] at h; simpa using h
      · right
        refine ⟨by omega, ?_⟩
        have hs := big n h10
        rw [hbe] at hs
        rcases hcase with ⟨h, hu⟩ | ⟨h0, ⟨hz, _⟩ | ⟨_, h⟩⟩
        · rw [h, ← hu, hs]
        · omega
        · rw [hs] at h; simpa using h
    · have e1 : (⟨([b] ++ r).toArray⟩ : ByteArray).toList.isEmpty = false := by rw [ByteArray.toList_eq]; rfl
      have e2 : (⟨r.toArray⟩ : ByteArray).toList.isEmpty = r.isEmpty := by rw [ByteArray.toList_eq]
      dsimp only
      rw [e1, e2, Int.toNat_natCast, Int.toNat_natCast]
      cases r with
      | nil => simp; omega
      | cons c r =>
        have : 0 < n := by simp at hgo; omega
        simp; omega
  · have hr : r ≠ [] := by intro h; rw [h] at hend; simp at hend
    have hn0 : n = 0 := by simp at hend; omega
    rcases hcase with ⟨h, _⟩ | ⟨_, ⟨_, h⟩ | ⟨h, _⟩⟩
    · exact absurd h hr
    · rw [h]; exact ⟨rfl, c2⟩
    · omega

end Go.Proofs.YtmdandkoajocpaaGreatDoor
end

section
namespace Go.Proofs.YtmdandkoajocpaaGreatDoor
open Go Sx
set_option maxRecDepth 8000

theorem pkname2_spec (num : Int) (hb : -9223372036854775808 ≤ num ∧ num ≤ 9223372036854775807) (w : World) (hT : PTab w) : Calls Tryz.prog 19 #[.int .i64 num] w fun e w' => e = .returned (strV (if goodP num then nameD 112 num else [])) ∧ Chg [] w w' := by
  cases hg : goodP num with
  | true =>
    refine (pkname_spec num w hT hg).mono ?_
    rintro e w' ⟨rfl, c⟩
    exact ⟨rfl, c⟩
  | false =>
    apply pack_Name_vc
    refine (pkgood_spec num w).mono ?_
    rintro e w1 ⟨rfl, rfl⟩
    rw [hg]
    exact ⟨_, rfl, fun _ => ⟨rfl, Chg.refl _ _⟩, fun h => (by cases h)⟩
theorem extract1 (c : UInt8) (r : List UInt8) : (⟨(c :: r).toArray⟩ : ByteArray).extract 1 (⟨(c :: r).toArray⟩ : ByteArray).size = ⟨r.toArray⟩ := by
  apply ByteArray.ext
  rw [ByteArray.data_extract]
  apply Array.ext'
  have : (⟨(c :: r).toArray⟩ : ByteArray).size = r.length + 1 := by show (c :: r).toArray.size = _; simp
  rw [this]
  simp
theorem sizeS (l : List UInt8) : ((⟨l.toArray⟩ : ByteArray).size : Int) = (l.length : Int) := by show ((l.toArray.size : Nat) : Int) = _; simp

theorem pknumber_spec (s : List UInt8) (hs : s.length ≤ 281474976710656) (w : World) (hT : PTab w) (hE : EVar w) : Calls Tryz.prog 16 #[strV s] w fun e w' => e = .returned (.tuple #[.int .i64 ((numO 112 0 1099511627776 s).getD 0), .bool (numO 112 0 1099511627776 s).isSome]) ∧ Chg [] w w' := by
  obtain ⟨mI, hI⟩ := eI
  apply pack_Number_vc
  rw [emptyS]
  refine ⟨fun h => ?_, fun h => ?_⟩
  · have : s = [] := by simpa using h
    subst this
    exact ⟨rfl, Chg.refl _ _⟩
  cases s with
  | nil => simp at h
  | cons c r =>
  have hx : (⟨(c :: r).toArray⟩ : ByteArray).extract (Int.toNat 1) (⟨(c :: r).toArray⟩ : ByteArray).size = ⟨r.toArray⟩ := extract1 c r
  have hlen : (c :: r).length = r.length + 1 := rfl
  rw [hx]
  refine ⟨by omega, by rw [sizeS, hlen]; omega, (atoi_spec r (by omega) w hE).mono ?_⟩
  rintro e w1 ⟨c1, ⟨v, hv, rfl⟩ | ⟨hbad, v, t, p, rfl⟩⟩
  · have hvb := Lib.atoiAll_bounds hv
    refine ⟨_, _, rfl, fun x w' => x = !decide (0 ≤ v ∧ v ≤ 1099511627776 ∧ nameD 112 v = c :: r) ∧ Chg [] w w', ⟨_, neqS_nil hI none _ _, fun h => by simp at h, fun _ => (pkname2_spec v (by omega) w1 (hT.keep0 c1)).mono ?_⟩, ?_⟩
    · rintro e w2 ⟨rfl, c2⟩
      refine ⟨_, rfl, ?_, c1.trans c2⟩
      rw [sameS]
      congr 1
      cases hg : goodP v with
      | true =>
        have := goodP_iff.1 hg
        simp [this.1, this.2]
      | false =>
        have : ¬ (0 ≤ v ∧ v ≤ 1099511627776) := fun h => by rw [goodP_iff.2 h] at hg; cases hg
        simp only [Bool.false_eq_true, if_false]
        have h2 : ¬ (0 ≤ v ∧ v ≤ 1099511627776 ∧ nameD 112 v = c :: r) := fun h => this ⟨h.1, h.2.1⟩
        simp [h2]
    · rintro x w3 ⟨rfl, c3⟩
      have hn : numO 112 0 1099511627776 (c :: r) = if 0 ≤ v ∧ v ≤ 1099511627776 ∧ nameD 112 v = c :: r then some v else none := by unfold numO; simp only [hv]
      refine ⟨fun h => ⟨?_, c3⟩, fun h => ⟨?_, c3⟩⟩
      · have : ¬ (0 ≤ v ∧ v ≤ 1099511627776 ∧ nameD 112 v = c :: r) := of_decide_eq_false (by rwa [Bool.not_eq_true'] at h)
        rw [hn, if_neg this]; rfl
      · have : 0 ≤ v ∧ v ≤ 1099511627776 ∧ nameD 112 v = c :: r := of_decide_eq_true (by rwa [Bool.not_eq_false'] at h)
        rw [hn, if_pos this]; rfl
  · have hn : numO 112 0 1099511627776 (c :: r) = none := by
      unfold numO
      cases ha : Lib.atoiAll r with
      | ok u => exact absurd ha (hbad u)
      | «syntax» => simp only [ha]
      | range => simp only [ha]
    rw [hn]
    refine ⟨_, _, rfl, fun x w' => x = true ∧ w' = w1, ⟨_, neqI_nil hI _ _ _ _, fun _ => ⟨rfl, rfl⟩, fun h => by cases h⟩, ?_⟩
    rintro x w3 ⟨rfl, rfl⟩
    exact ⟨fun _ => ⟨rfl, c1⟩, fun h => (by cases h)⟩

theorem rgood_spec (num : Int) (w : World) : Calls Tryz.prog 18 #[.int .i64 num] w fun e w' => e = .returned (.bool (goodP num)) ∧ w' = w := by
  apply amphoraref13_Good_vc
  exact ⟨rfl, rfl⟩
theorem refname_spec (num : Int) (hg : goodP num = true) (w : World) : Calls Tryz.prog 20 #[.int .i64 num] w fun e w' => e = .returned (strV (nameD 112 num)) ∧ Chg [] w w' := by
  have h := goodP_iff.1 hg
  obtain ⟨u, rfl⟩ : ∃ u : Nat, num = (u : Int) := ⟨num.toNat, by omega⟩
  apply amphoraref13_Name_vc
  refine (decimal_spec u (by omega) w).mono ?_
  rintro e w1 ⟨rfl, c1⟩
  have hl := dec_len 12 u (by omega)
  refine ⟨_, rfl, _, addSL [112] (Lib.decDigits u) _ _ w1 (by simp; omega), ?_, c1⟩
  rw [nameD, itoa_nat]; rfl
theorem ixS13 {l : List UInt8} {i : Nat} (hi : i < l.length) (w : World) : (Instr.index 9 (.string ⟨l.toArray⟩) (.int .i64 (i : Int))).run Tryz.prog w = .ok (.int .u8 ((l.getD i 0).toNat : Int)) w := by
  have h1 : (⟨l.toArray⟩ : ByteArray)[i]? = some (l.getD i 0) := by
    have h2 : i < (⟨l.toArray⟩ : ByteArray).size := by show i < l.toArray.size; simpa using hi
    rw [getElem?_pos _ i h2]
    show some (l.toArray[i]'(by simpa using hi)) = _
    simp [List.getD, hi]
  have h0 : (0 : Int) ≤ (i : Int) := by omega
  simp only [Instr.index, Sem.run_bind, asIntOf, Sem.run_pure, run_underlying sS, Result.andThen_ok, h0, if_true, Int.toNat_natCast, h1]

theorem refnumber_spec (s : List UInt8) (w : World) : Calls Tryz.prog 17 #[strV s] w fun e w' => e = .returned (.tuple #[.int .i64 ((numO 112 0 1099511627776 s).getD 0), .bool (numO 112 0 1099511627776 s).isSome]) ∧ Chg [] w w' := by
  apply amphoraref13_Number_vc
  rw [sizeS]
  have bad : ∀ {P : Prop}, P → (∀ v r, 0 ≤ v → v ≤ 1099511627776 → s = 112 :: r → r ≠ [] → r.length ≤ 13 → (∀ b ∈ r, 48 ≤ b.toNat ∧ b.toNat ≤ 57) → (foldD r : Int) = v → P → False) → numO 112 0 1099511627776 s = none := fun {P} hP h => numO_none (by omega) (by omega) fun v h0 h1 he => by
    obtain ⟨r, e1, e2, e3, e4, e5⟩ := nameD_form (c := 112) h0 h1
    exact h v r h0 h1 (by rw [← he, e1]) e2 e3 e4 e5 hP
  refine ⟨fun x w' => (x = true → numO 112 0 1099511627776 s = none) ∧ (x = false → 2 ≤ s.length ∧ s.length ≤ 15 ∧ s.head? = some 112) ∧ w' = w, ⟨fun h => ⟨fun _ => ?_, fun h => (by cases h), rfl⟩, fun h => ?_⟩, ?_⟩
  · refine bad h fun v r h0 h1 he hr h13 _ _ hc => ?_
    subst he
    have : 0 < r.length := List.length_pos_iff.2 hr
    simp at hc; omega
  · have h2 : 2 ≤ s.length ∧ s.length ≤ 15 := by simp at h; omega
    refine ⟨_, ixS13 (i := 0) (by omega) w, fun hc => ?_, fun hc => ⟨h2.1, h2.2, ?_⟩, rfl⟩
    · refine bad hc fun v r h0 h1 he hr h13 _ _ hc => ?_
      subst he
      simp [List.getD] at hc
    · cases s with
      | nil => simp at h2
      | cons b r =>
        have : (b.toNat : Int) = 112 := by simpa [List.getD] using hc
        have : b = 112 := UInt8.toNat_inj.1 (by show b.toNat = 112; omega)
        rw [this]; rfl
  rintro x w1 ⟨hx1, hx2, rfl⟩
  refine ⟨fun h => ⟨by rw [hx1 h]; rfl, Chg.refl _ _⟩, fun h => ?_⟩
  obtain ⟨hl2, hl15, hhead⟩ := hx2 h
  cases s with
  | nil => simp at hl2
  | cons b0 r =>
  have hb0 : b0 = 112 := by simpa using hhead
  subst hb0
  have hlen : (112 :: r : List UInt8).length = r.length + 1 := rfl
  refine ⟨fun x i w' => ∃ j : Nat, i = ((j + 1 : Nat) : Int) ∧ j ≤ r.length ∧ x = ((foldD (r.take j) : Nat) : Int) ∧ (∀ b ∈ r.take j, 48 ≤ b.toNat ∧ b.toNat ≤ 57) ∧ w' = w1, fun _ i _ => r.length + 1 - i.toNat, ⟨0, rfl, Nat.zero_le _, by simp [foldD], by simp, rfl⟩, ?_⟩
  rintro x i w2 ⟨j, rfl, hj, rfl, hok, rfl⟩
  have hfl := foldD_lt _ hok
  have hpw : 10 ^ (r.take j).length ≤ 10 ^ 14 := Nat.pow_le_pow_right (by decide) (by rw [List.length_take]; omega)
  have h14 : (10 : Nat) ^ 14 = 100000000000000 := by decide
  have hfb : foldD (r.take j) < 100000000000000 := by omega
  refine ⟨fun hlt => ?_, fun hge => ?_⟩
  · have hj' : j < r.length := by rw [hlen] at hlt; simp at hlt; omega
    have hg : (112 :: r : List UInt8).getD (j + 1) 0 = r.getD j 0 := by simp [List.getD]
    have hrj : r[j]? = some (r.getD j 0) := by simp [List.getD, hj']
    have hix := ixS13 (l := 112 :: r) (i := j + 1) (by rw [hlen]; omega) w2
    rw [hg] at hix
    obtain ⟨b, hbe⟩ : ∃ b, r.getD j 0 = b := ⟨_, rfl⟩
    rw [hbe] at hix hrj
    have hbu := u8_lt b
    have htk : r.take (j + 1) = r.take j ++ [b] := by rw [List.take_add_one, hrj]; rfl
    refine ⟨fun x w' => x = !(decide (48 ≤ b.toNat ∧ b.toNat ≤ 57)) ∧ w' = w2, ⟨_, hix, fun h => ⟨?_, rfl⟩, fun h => ⟨_, hix, ?_, rfl⟩⟩, ?_⟩
    · have : b.toNat < 48 := by simp at h; omega
      simp; omega
    · have h48 : 48 ≤ b.toNat := by simp at h; omega
      by_cases h57 : b.toNat ≤ 57
      · have : ¬ ((b.toNat : Int) > 57) := by omega
        simp [h48, h57, this]
      · have : (b.toNat : Int) > 57 := by omega
        simp [h57, this]
    rintro x w3 ⟨rfl, rfl⟩
    refine ⟨fun hc => ⟨?_, Chg.refl _ _⟩, fun hc => ?_⟩
    · have hnd : ¬ (48 ≤ b.toNat ∧ b.toNat ≤ 57) := of_decide_eq_false (by rwa [Bool.not_eq_true'] at hc)
      have : numO 112 0 1099511627776 (112 :: r) = none := bad hnd fun v r' h0 h1 he hr h13 hd _ hc => by
        injection he with _ he
        subst he
        exact hc (hd b (List.mem_of_getElem? hrj))
      rw [this]; rfl
    · have hd : 48 ≤ b.toNat ∧ b.toNat ≤ 57 := of_decide_eq_true (by rwa [Bool.not_eq_false'] at hc)
      have hw : IntKind.wrap .i64 (IntKind.wrap .i64 (10 * ((foldD (r.take j) : Nat) : Int)) + IntKind.wrap .i64 (IntKind.wrap .u8 ((b.toNat : Int) - 48))) = ((foldD (r.take (j + 1)) : Nat) : Int) := by
        rw [htk, foldD_snoc, wrap_u8, wrap_i64 (n := 10 * _) (by omega) (by omega), wrap_i64 (n := ((b.toNat : Int) - 48) % 256) (by omega) (by omega), wrap_i64 (by omega) (by omega)]
        omega
      refine ⟨_, hix, ?_, ?_⟩
      · refine ⟨j + 1, ?_, by omega, hw, ?_, rfl⟩
        · rw [wrap_i64 (by omega) (by omega)]; omega
        · rw [htk]
          intro u hu
          rcases List.mem_append.1 hu with hu | hu
          · exact hok u hu
          · rw [List.mem_singleton] at hu; rw [hu]; exact hd
      · dsimp only
        rw [wrap_i64 (n := ((j + 1 : Nat) : Int) + 1) (by omega) (by omega)]; omega
  · have hj' : j = r.length := by rw [hlen] at hge; simp at hge; omega
    subst hj'
    rw [List.take_length] at hok hfb ⊢
    obtain ⟨v, hv⟩ : ∃ v : Int, ((foldD r : Nat) : Int) = v := ⟨_, rfl⟩
    have hvb : 0 ≤ v ∧ v < 100000000000000 := by omega
    rw [hv]
    have hiff : (numO 112 0 1099511627776 (112 :: r)).isSome = true → numO 112 0 1099511627776 (112 :: r) = some v := fun h => by
      cases hn : numO 112 0 1099511627776 (112 :: r) with
      | none => rw [hn] at h; cases h
      | some u =>
        obtain ⟨h0, h1, he⟩ := (numO_iff (by omega) (by omega)).1 hn
        obtain ⟨r', e1, _, _, _, e5⟩ := nameD_form (c := 112) h0 h1
        rw [e1] at he
        injection he with _ he
        subst he
        rw [← e5, ← hv]
    refine ⟨fun x w' => x = !(decide (numO 112 0 1099511627776 (112 :: r) = some v)) ∧ Chg [] w2 w', (rgood_spec v w2).mono ?_, ?_⟩
    · rintro e w4 ⟨rfl, rfl⟩
      refine ⟨_, rfl, fun h => ⟨?_, Chg.refl _ _⟩, fun h => (refname_spec v (by simpa using h) w4).mono ?_⟩
      · have hg : ¬ goodP v = true := by simpa using h
        have : ¬ numO 112 0 1099511627776 (112 :: r) = some v := fun h => by
          obtain ⟨h0, h1, _⟩ := (numO_iff (by omega) (by omega)).1 h
          exact hg (goodP_iff.2 ⟨h0, h1⟩)
        simp [this]
      · rintro e w5 ⟨rfl, c5⟩
        refine ⟨_, rfl, ?_, c5⟩
        have hg := goodP_iff.1 (by simpa using h : goodP v = true)
        rw [sameS]
        congr 1
        have : (nameD 112 v = 112 :: r) ↔ numO 112 0 1099511627776 (112 :: r) = some v := by
          rw [numO_iff (by omega) (by omega)]
          exact ⟨fun h => ⟨hg.1, hg.2, h⟩, fun h => h.2.2⟩
        exact decide_eq_decide.2 this
    · rintro x w6 ⟨rfl, c6⟩
      refine ⟨fun h => ⟨?_, c6⟩, fun h => ⟨?_, c6⟩⟩
      · have h1 : ¬ numO 112 0 1099511627776 (112 :: r) = some v := by simpa using h
        have : numO 112 0 1099511627776 (112 :: r) = none := by
          cases hn : numO 112 0 1099511627776 (112 :: r) with
          | none => rfl
          | some u => exact absurd (hiff (by rw [hn]; rfl)) h1
        rw [this]; rfl
      · have h1 : numO 112 0 1099511627776 (112 :: r) = some v := by simpa using h
        rw [h1]; rfl

theorem packNames_walk (num : Int) (hnum : -9223372036854775808 ≤ num ∧ num ≤ 9223372036854775807) (s : List UInt8) (hs : s.length ≤ 281474976710656) (w : World) (hK : KTab w) (hT : PTab w) (hE : EVar w) :
    Calls Tryz.prog 4 #[.int .i64 num, strV s] w fun e w' => e = .returned (.bool true) ∧ Chg [] w w' := by
  apply amphoralaw13_PackNames_vc
  refine (alive13_spec w hK).mono ?_
  rintro e w1 ⟨rfl, c1⟩
  refine ⟨_, rfl, fun h => (by cases h), fun _ => (pknumber_spec s hs w1 (hT.keep0 c1) (hE.keep0 c1)).mono ?_⟩
  rintro e w2 ⟨rfl, c2⟩
  have d2 := c1.trans c2
  refine ⟨_, _, rfl, (refnumber_spec s w2).mono ?_⟩
  rintro e w3 ⟨rfl, c3⟩
  have d3 := d2.trans c3
  refine ⟨_, _, rfl, fun h => by simp at h, fun _ => (rgood_spec num w3).mono ?_⟩
  rintro e w4 ⟨rfl, rfl⟩
  refine ⟨_, rfl, fun h => (pkname2_spec num hnum w4 (hT.keep0 d3)).mono ?_, fun h => ?_⟩
  · rintro e w5 ⟨rfl, c5⟩
    have : goodP num = false := by simpa using h
    rw [this]
    refine ⟨_, rfl, ?_, d3.trans c5⟩
    rw [if_neg (by simp)]
    have := emptyS []
    rw [this]; rfl
  have hg : goodP num = true := by simpa using h
  have hgb := goodP_iff.1 hg
  have name1 : ∀ {w}, PTab w → Calls Tryz.prog 19 #[.int .i64 num] w fun e w' => e = .returned (strV (nameD 112 num)) ∧ Chg [] w w' := fun hT => pkname_spec num _ hT hg
  refine (name1 (hT.keep0 d3)).mono ?_
  rintro e w6 ⟨rfl, c6⟩
  have d6 := d3.trans c6
  obtain ⟨r, e1, _, e3, _, _⟩ := nameD_form (c := 112) hgb.1 hgb.2
  refine ⟨_, rfl, (pknumber_spec (nameD 112 num) (by rw [e1]; simp; omega) w6 (hT.keep0 d6) (hE.keep0 d6)).mono ?_⟩
  rintro e w7 ⟨rfl, c7⟩
  have d7 := d6.trans c7
  refine ⟨_, _, rfl, (name1 (hT.keep0 d7)).mono ?_⟩
  rintro e w8 ⟨rfl, c8⟩
  refine ⟨_, rfl, (refname_spec num hg w8).mono ?_⟩
  rintro e w9 ⟨rfl, c9⟩
  have hn : numO 112 0 1099511627776 (nameD 112 num) = some num := (numO_iff (by omega) (by omega)).2 ⟨hgb.1, hgb.2, rfl⟩
  refine ⟨_, rfl, ?_, (d7.trans c8).trans c9⟩
  rw [hn]
  simp

end Go.Proofs.YtmdandkoajocpaaGreatDoor
end

section
namespace Go.Proofs.YtmdandkoajocpaaGreatDoor
open Go Sx
set_option maxRecDepth 8000

theorem laidP_eq : (Rows.laid_internal_strconv_uint64pow10 : DataW Unit) = Lib.tabData .u64 Lib.pow10Tab := by kernel_rfl
theorem pTab_of_laid {W : World} {rest : List (String × DataW Unit)} (hp : ∀ w, laidMetH Tryz.prog (("internal/strconv.uint64pow10", Rows.laid_internal_strconv_uint64pow10) :: rest) w = laidMet Tryz.prog (("internal/strconv.uint64pow10", Rows.laid_internal_strconv_uint64pow10) :: rest) w) (h : laidMetH Tryz.prog (("internal/strconv.uint64pow10", Rows.laid_internal_strconv_uint64pow10) :: rest) W) : PTab W := by
  rw [hp, laidP_eq] at h
  have hg : Tryz.prog.globalNamed "internal/strconv.uint64pow10" = some 2 := by kernel_rfl
  exact Lib.tabIs_of_head hg (by kernel_rfl) Tryz.underlying244 Tryz.underlying177 (by kernel_rfl) (by kernel_rfl) h

end Go.Proofs.YtmdandkoajocpaaGreatDoor
end

section
namespace Go.Proofs.YtmdandkoajocpaaGreatDoor
open Go Sx
set_option maxRecDepth 8000

theorem row_es (u : TypeId) (h : Tryz.prog.typeName? 3 u = some "*errors.errorString") : u = 240 := by
  have e : "*" ++ "errors.errorString" = "*errors.errorString" := by decide
  exact typeName_ptr_named (nm := "errors.errorString") (by rw [e]; kernel_rfl) (by kernel_rfl) (by decide) u (by rw [e]; exact h)
theorem cells_es : Tryz.prog.cellsOf 242 = 1 := by kernel_rfl
theorem cells_s : Tryz.prog.cellsOf 9 = 1 := by kernel_rfl
theorem eVar_of_laid {W : World} (h1 : laidMetH Tryz.prog [("strconv.ErrSyntax", Rows.laid_strconv_ErrSyntax)] W) (h2 : laidMetH Tryz.prog [("strconv.ErrRange", Rows.laid_strconv_ErrRange)] W) : EVar W := by
  rw [MakeChecks.laidMetH_plain _ _ _ (by kernel_rfl)] at h1 h2
  have g1 : Tryz.prog.globalNamed "strconv.ErrSyntax" = some 0 := by kernel_rfl
  have g2 : Tryz.prog.globalNamed "strconv.ErrRange" = some 1 := by kernel_rfl
  have t1 : (Tryz.prog.globals[0]?).map (·.type) = some 36 := by kernel_rfl
  have t2 : (Tryz.prog.globals[1]?).map (·.type) = some 36 := by kernel_rfl
  obtain ⟨a, _, v1, _⟩ := laid_sentinel h1 g1 t1 Tryz.underlying36 row_es Tryz.underlying240 Tryz.underlying242 rfl rfl Tryz.underlying9 cells_es cells_s
  obtain ⟨b, _, v2, _⟩ := laid_sentinel h2 g2 t2 Tryz.underlying36 row_es Tryz.underlying240 Tryz.underlying242 rfl rfl Tryz.underlying9 cells_es cells_s
  exact ⟨⟨_, _, v1⟩, _, _, v2⟩

end Go.Proofs.YtmdandkoajocpaaGreatDoor
end
