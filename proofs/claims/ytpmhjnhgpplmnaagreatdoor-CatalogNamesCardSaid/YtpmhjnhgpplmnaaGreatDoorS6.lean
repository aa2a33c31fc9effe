/- The proof of CatalogNamesCardSaid, part 6: what it rests on (conditions: those that each theorem names). -/
import Derived.Test.YtpmhjnhgpplmnaaGreatDoorS5
import Derived.Test.YtpmhjnhgpplmnaaGreatDoorRows
import Derived.WalkKit
import Derived.LaidEql
import Derived.Stop.Asserts
import Derived.RowKitTokens
import Derived.Stop.LaidErr
section
namespace Go.Proofs.YtpmhjnhgpplmnaaGreatDoor
open Go Sx
set_option maxRecDepth 8000

theorem Sx.St.stAt {P : Program} {w0 w : World} {X : List Nat} {M : List Res} (h : St w0 X w M) {i g n o : Nat} {l v : List Value} {T' T : TypeId} (hi : M[i]? = some (.arr g T' l)) (hS : (sizeOf T).run P w = .ok n w) (hv : v.length = n) (hle : o + n ≤ l.length) (h1 : ∀ u ∈ v, u.oneCell' = true) :
   ∃ w', (Instr.storeAt T (.pointer (some ⟨g, o, none⟩)) (.agg v.toArray)).run P w = .ok () w' ∧ St w0 X w' (M.set i (.arr g T' (l.take o ++ v ++ l.drop (o + n)))) := by
 have hg := h.holds i _ hi
 have hst := run_storeCells_at P g o T' v 0 l.toArray w hg (by simp; omega) h1
 have hset : (l.toArray.toList.take (o + 0) ++ v ++ l.toArray.toList.drop (o + 0 + v.length)).toArray = (l.take o ++ v ++ l.drop (o + n)).toArray := by simp [hv]
 rw [hset] at hst
 refine ⟨_, ?_, h.upd hi (w' := w.setRow g _) ⟨rfl, rfl, rfl, by simp, fun k _ hk => setRow_other w g k _ (fun e => hk (by simp [Res.fp, e]))⟩ (setRow_heap w g _ _ T' _ hg) (by simp [Res.fp])⟩
 simp [Instr.storeAt, Instr.sureAddr, storeVar, hS, Value.cells, hv, hst]

section
variable {w w1 w' : World} {g : Nat} {a0 : Option Addr} {n0 c0 : Nat} {l : List UInt8} {st : Option (List UInt8)} {N N' : List Res}
theorem HoldsR.stAt (h : HoldsR w w1 g a0 n0 c0 l st N) {i g' n o : Nat} {l' v : List Value} {T' T : TypeId} (hi : N[i]? = some (.arr g' T' l')) (hS : (sizeOf T).run Tryz.prog w1 = .ok n w1) (hv : v.length = n) (hle : o + n ≤ l'.length) (h1 : ∀ u ∈ v, u.oneCell' = true) :
   ∃ w2, (Instr.storeAt T (.pointer (some ⟨g', o, none⟩)) (.agg v.toArray)).run Tryz.prog w1 = .ok () w2 ∧ HoldsR w w2 g a0 n0 c0 l st (N.set i (.arr g' T' (l'.take o ++ v ++ l'.drop (o + n)))) := by
 obtain ⟨M, hM, hS', b⟩ := h.on
 obtain ⟨w2, r, h2⟩ := Sx.St.stAt hS' (i := 2 + i) (v := v) (by rw [List.getElem?_append_right (by omega), hM, Nat.add_sub_cancel_left]; exact hi) hS hv hle h1
 rw [List.set_append_right _ _ (by omega), hM, Nat.add_sub_cancel_left] at h2
 exact ⟨w2, r, b h2⟩
theorem HoldsR.stL (h : HoldsR w w1 g a0 n0 c0 l st N) {i g' o : Nat} {l' : List Value} {v : Value} {T' T : TypeId} (hi : N[i]? = some (.arr g' T' l')) (hT : (sizeOf T).run Tryz.prog w1 = .ok 1 w1) (ho : o < l'.length) (hv : v.oneCell' = true) :
   ∃ w2, (Instr.storeAt T (.pointer (some ⟨g', o, none⟩)) v).run Tryz.prog w1 = .ok () w2 ∧ HoldsR w w2 g a0 n0 c0 l st (N.set i (.arr g' T' (l'.set o v))) := by
 obtain ⟨M, hM, hS', b⟩ := h.on
 obtain ⟨w2, r, h2⟩ := hS'.stL (i := 2 + i) (o := o) (off := o) (v := v) (by rw [List.getElem?_append_right (by omega), hM, Nat.add_sub_cancel_left]; exact hi) hT rfl ho hv
 rw [List.set_append_right _ _ (by omega), hM, Nat.add_sub_cancel_left] at h2
 exact ⟨w2, r, b h2⟩
end

theorem built_rd : Tryz.prog.built 201 = fun parts => Instr.fill (fun i => (#[(0, 1)] : Array (Nat × Nat))[i]?) #[.pointer none] parts := by kernel_rfl
theorem rd_build (g : Nat) (w : World) : (Instr.build 201 #[(0, .pointer (some ⟨g, 0, none⟩))]).run Tryz.prog w = .ok (.agg ([.pointer (some ⟨g, 0, none⟩)] : List Value).toArray) w := by
 apply run_build
 rw [built_rd]
 show Instr.fill _ _ [(0, _)] = _
 rw [fill_step (off := 0) (sz := 1) rfl (by simp [Value.cells]) (by simp)]
 simp [Instr.fill, Value.cells]
theorem rdZ (w : World) : (zeroValue 201).run Tryz.prog w = .ok (.agg ([.pointer none] : List Value).toArray) w := Tryz.zeroValue201 w
theorem rdA (w : World) : (isAgg 201).run Tryz.prog w = .ok true w := Tryz.isAgg201 w
theorem rdS (w : World) : (sizeOf 201).run Tryz.prog w = .ok 1 w := Tryz.sizeOf201 w
theorem prA (w : World) : (isAgg 198).run Tryz.prog w = .ok false w := Tryz.isAgg198 w
def set0 : SetD := ⟨0, 0, 0, 0, 0⟩
def cat0 : CatD := ⟨0, 0, set0, [], []⟩
theorem built_cat : Tryz.prog.built 47 = fun parts => Instr.fill (fun i => (#[(0, 1), (1, 1), (2, 5), (7, 1), (8, 1)] : Array (Nat × Nat))[i]?) catZ.toArray parts := by kernel_rfl
theorem cat_build0 (w : World) : (Instr.build 47 #[]).run Tryz.prog w = .ok (.agg catZ.toArray) w := by
 apply run_build
 rw [built_cat]
 rfl
theorem cat_build2 (x y : Int) (w : World) : (Instr.build 47 #[(0, .int .i64 x), (1, .int .i64 y)]).run Tryz.prog w = .ok (.agg (catC ⟨x, y, set0, [], []⟩ none 0 0 none 0 0).toArray) w := by
 apply run_build
 rw [built_cat]
 show Instr.fill _ _ [(0, _), (1, _)] = _
 rw [fill_step (off := 0) (sz := 1) rfl rfl (by simp [Value.cells, catZ]), fill_step (off := 1) (sz := 1) rfl rfl (by simp [Value.cells, catZ])]
 rfl
theorem built_set : Tryz.prog.built 44 = fun parts => Instr.fill (fun i => (#[(0, 1), (1, 1), (2, 1), (3, 1), (4, 1)] : Array (Nat × Nat))[i]?) (setC set0).toArray parts := by kernel_rfl
theorem set_build (s : SetD) (w : World) : (Instr.build 44 #[(0, .int .u64 (s.poly : Int)), (1, .int .i64 s.win), (2, .int .i64 s.min), (3, .int .i64 s.max), (4, .int .i64 s.bits)]).run Tryz.prog w = .ok (.agg (setC s).toArray) w := by
 apply run_build
 rw [built_set]
 show Instr.fill _ _ [(0, _), (1, _), (2, _), (3, _), (4, _)] = _
 rw [fill_step (off := 0) (sz := 1) rfl rfl (by simp [Value.cells, setC]), fill_step (off := 1) (sz := 1) rfl rfl (by simp [Value.cells, setC]), fill_step (off := 2) (sz := 1) rfl rfl (by simp [Value.cells, setC]),
   fill_step (off := 3) (sz := 1) rfl rfl (by simp [Value.cells, setC]), fill_step (off := 4) (sz := 1) rfl rfl (by simp [Value.cells, setC])]
 rfl
theorem pq_build (p : PkD) (w : World) : (Instr.build 91 #[(0, .int .i64 p.num), (1, .int .i64 p.size), (2, .int .i64 p.count)]).run Tryz.prog w = .ok (.agg (pkC p).toArray) w := by
 have hb : Tryz.prog.built 91 = fun parts => Instr.fill (fun i => (#[(0, 1), (1, 1), (2, 1)] : Array (Nat × Nat))[i]?) ([.int .i64 0, .int .i64 0, .int .i64 0] : List Value).toArray parts := by kernel_rfl
 apply run_build
 rw [hb]
 show Instr.fill _ _ [(0, _), (1, _), (2, _)] = _
 rw [fill_step (off := 0) (sz := 1) rfl rfl (by simp [Value.cells]), fill_step (off := 1) (sz := 1) rfl rfl (by simp [Value.cells]), fill_step (off := 2) (sz := 1) rfl rfl (by simp [Value.cells])]
 rfl

end Go.Proofs.YtpmhjnhgpplmnaaGreatDoor
end

section
namespace Go.Proofs.YtpmhjnhgpplmnaaGreatDoor
open Go Sx
set_option maxRecDepth 8000

theorem HoldsR.pushA {w w1 : World} {g : Nat} {a0 : Option Addr} {n0 c0 : Nat} {l : List UInt8} {st : Option (List UInt8)} {N : List Res} (h : HoldsR w w1 g a0 n0 c0 l st N) {i t ty e sz by_ : Nat} {z : Value} (E : ElemT Tryz.prog t e sz by_ z) {a : Option Addr} {n c : Nat} {xs : List Value} (hi : N[i]? = some (.row e sz (.slice a n c) n xs)) (cs : List Value) (hl : cs.length = sz) (hsz : sz ≤ 16777216) (hv : ∀ v ∈ cs, v.oneCell' = true)
   (hb : (n + 1) * by_ ≤ 140737488355328) (hm : n + 1 ≤ maxLen) :
   ∃ g' w2 va vc w3, (Instr.buildSlice t 1 #[(0, .agg cs.toArray)]).run Tryz.prog w1 = .ok (.slice (some ⟨g', 0, none⟩) 1 1) w2 ∧ (Builtin.append_ #[t, t] ty #[.slice a n c, .slice (some ⟨g', 0, none⟩) 1 1]).run Tryz.prog w2 = .ok (.slice va (n + 1) vc) w3 ∧
     HoldsR w w3 g a0 n0 c0 l st (N.set i (.row e sz (.slice va (n + 1) vc) (n + 1) (xs ++ cs))) ∧ HoldsR w w2 g a0 n0 c0 l st N := by
 obtain ⟨M, hM, hS, b⟩ := h.on
 obtain ⟨g', w2, va, vc, w3, r1, r2, h3, h2⟩ := hS.pushA (i := 2 + i) (ty := ty) E (by rw [List.getElem?_append_right (by omega), hM, Nat.add_sub_cancel_left]; exact hi) cs hl hsz hv hb hm
 rw [List.set_append_right _ _ (by omega), hM, Nat.add_sub_cancel_left] at h3
 exact ⟨g', w2, va, vc, w3, r1, r2, b h3, b h2⟩
theorem flat_one {α : Type} (f : α → List Value) (l : List α) (i : Nat) (x : α) (h : l[i]? = some x) : (l.take (i + 1)).flatMap f = (l.take i).flatMap f ++ f x := by
 rw [List.take_add_one, h, List.flatMap_append]; simp
theorem drop_one {α β : Type} (f : α → List β) (l : List α) (i : Nat) (x : α) (h : l[i]? = some x) : (l.drop i).flatMap f = f x ++ (l.drop (i + 1)).flatMap f := by
 obtain ⟨hi, rfl⟩ := List.getElem?_eq_some_iff.1 h
 rw [List.drop_eq_getElem_cons hi, List.flatMap_cons]

set_option maxHeartbeats 8000000 in
theorem catDecode_spec (K : List UInt8) (hk : K.length = 96) (C : CatD) (ok : CatOk C) (hc : checkB C = true) (a : Option Addr) (n c : Nat) (w : World) (hK : KTab w) (hr : RdB w a n c (encC K C)) :
   Calls Tryz.prog 41 #[.agg (bv K).toArray, .slice a n c] w fun e w' => ∃ sa sc pa pc, e = .returned (.tuple #[.agg (catC C sa C.snaps.length sc pa C.packs.length pc).toArray, errV none]) ∧ St w [] w' [.row 89 36 (.slice sa C.snaps.length sc) C.snaps.length (C.snaps.flatMap snapC), .row 91 3 (.slice pa C.packs.length pc) C.packs.length (C.packs.flatMap pkC)] := by
 obtain ⟨mI, hI⟩ := eI
 have hpl := plain_len ok
 have hn := hr.lenB
 have hel : (encC K C).length = (plainB C).length + 45 := sealF_len K 4 catK (plainB C) (by omega)
 have hop : openF K 4 catK (encC K C) = some (plainB C) := open_sealF K 4 catK (plainB C) (by omega)
 have hoe : openE K 4 catK (encC K C) = none := by unfold openE; rw [hop]; rfl
 apply catalog_Decode_vc
 obtain ⟨g2, w1, r1, k1⟩ := (St.start w).boxA (P := Tryz.prog) 41 (bv K)
 obtain ⟨g4, w2, r2, k2⟩ := k1.zeroA caZ16
 have k2 : St w [] w2 [.arr g2 41 (bv K), .arr g4 47 catZ] := k2
 obtain ⟨gc, w3, w4, r3, r4, c4, q4⟩ := litCtx w2
 have k4 := k2.same c4
 have ho := open_spec K 4 _ 7 7 catK a n c (encC K C) w4 hk (hK.keep0 k4.chg) q4 (k4.rd1 hr) (by omega)
 rw [hop, hoe] at ho
 refine ⟨g2, w1, r1, g4, w2, r2, _, k2.ldA (i := 0) (l := bv K) rfl (kyA' _) (kyS' _) (by simp [hk]), _, _, _, w3, r3, _, _, _, w4, r4, ho.mono ?_⟩
 rintro e w5 ⟨ba, bn, bc, rfl, f5⟩
 have f5 : FreshB w4 w5 ba bn bc (plainB C) := f5
 have k5 := k4.same f5.1
 have hbn := f5.rdB.lenB
 refine ⟨_, _, _, _, rfl, _, neqS_nil hI none _ _, fun h => by simp at h, fun _ => (newReader_spec ba bn bc (plainB C) w5 f5.rdB (by omega)).mono ?_⟩
 rintro e w7 ⟨g, a0, c0, rfl, k7⟩
 have j7 := Sx.St.callPart (N := []) (by rw [List.append_nil]; exact k5) k7
 have H7 : HoldsR w w7 g a0 bn c0 (plainB C) (some (plainB C)) [.arr g2 41 (bv K), .arr g4 47 catZ] := ⟨a0, bn, c0, fun v hv => hv, Nat.le_refl _, j7.perm (List.perm_append_comm (l₁ := [_, _]) (l₂ := [_, _]))⟩
 obtain ⟨g8, w8, r8, H8⟩ := H7.zeroA rdZ
 obtain ⟨w9, r9, H9⟩ := H8.stA (i := 2) (v := [.pointer (some ⟨g, 0, none⟩)]) rfl (rdS _) rfl rfl (by simp [Value.oneCell'])
 obtain ⟨B, hB⟩ : ∃ B : List Res, [.arr g2 41 (bv K), .arr g4 47 catZ, .arr g8 201 [.pointer (some ⟨g, 0, none⟩)]] = B := ⟨_, rfl⟩
 have H9 : HoldsR w w9 g a0 bn c0 (plainB C) (some (plainB C)) B := by rw [← hB]; exact H9
 have hBl : B.length = 3 := by rw [← hB]; rfl
 let H (w' : World) (st : Option (List UInt8)) (R : List Res) : Prop := HoldsR w w' g a0 bn c0 (plainB C) st (B ++ R)
 have ldR : ∀ {w' st R}, H w' st R → (Instr.loadAt 198 (.pointer (some ⟨g8, 0, none⟩))).run Tryz.prog w' = .ok (.pointer (some ⟨g, 0, none⟩)) w' := fun h => (HoldsR.rest h).ldL (i := 2) (o := 0) (by rw [← hB]; rfl) (prA _) rfl rfl
 have ldG : ∀ {w' st R}, H w' st R → (Instr.loadAt 201 (.pointer (some ⟨g8, 0, none⟩))).run Tryz.prog w' = .ok (.agg ([.pointer (some ⟨g, 0, none⟩)] : List Value).toArray) w' := fun h => (HoldsR.rest h).ldA (i := 2) (l := [.pointer (some ⟨g, 0, none⟩)]) (by rw [← hB]; rfl) (rdA _) (rdS _) rfl
 let S0 : World → Prop := fun w' => ∃ st R, H w' st R
 -- what is read
 obtain ⟨T8, hT8⟩ : ∃ T, varZ (C.packs.length : Int) ++ C.packs.flatMap pkB = T := ⟨_, rfl⟩
 obtain ⟨T7, hT7⟩ : ∃ T, C.snaps.flatMap snapB ++ T8 = T := ⟨_, rfl⟩
 have hL : plainB C = numZ C.gen ++ (numZ C.next ++ (numZ (polyZ C.set) ++ (varZ C.set.win ++ (varZ C.set.min ++ (varZ C.set.max ++ (varZ C.set.bits ++ (varZ (C.snaps.length : Int) ++ T7))))))) := by
   rw [← hT7, ← hT8]; simp [plainB, numsZ, varsZ, List.append_assoc]
 have hsn := ok.sn
 have hpn := ok.pn
 have qN : ∀ {w' R z r}, I63 z → H w' (some (numZ z ++ r)) R → Calls Tryz.prog 113 #[.pointer (some ⟨g, 0, none⟩)] w' fun e w2 => e = .returned (.int .i64 z) ∧ H w2 (some r) R := fun {w' R z r} hz h => by
   have := HoldsR.num h
   rw [(num_app hz r).1, (num_app hz r).2] at this; exact this
 have qV : ∀ {w' R z r}, N63 z → H w' (some (varZ z ++ r)) R → Calls Tryz.prog 114 #[.pointer (some ⟨g, 0, none⟩)] w' fun e w2 => e = .returned (.int .i64 z) ∧ H w2 (some r) R := fun {w' R z r} hz h => by
   have := HoldsR.varT h
   rw [(var_appZ hz r).1, (var_appZ hz r).2] at this; exact this
 let c9 (b : Nat) (C : CatD) (sa : Option Addr) (sn sc : Nat) (pa : Option Addr) (pn pc : Nat) : Res := .arr b 47 (catC C sa sn sc pa pn pc)
 have qA : ∀ {w' st}, H w' st [] → ∃ g9 w2, (Instr.alloc 47 true (.tuple #[])).run Tryz.prog w' = .ok (.pointer (some ⟨g9, 0, none⟩)) w2 ∧ H w2 st [c9 g9 cat0 none 0 0 none 0 0] := fun h => by
   have h' := h
   obtain ⟨g9, w2, r, h2⟩ := HoldsR.zeroA h' caZ16
   rw [List.append_assoc] at h2
   exact ⟨g9, w2, r, h2⟩
 have ix : ∀ {R : List Res} (i : Nat), (B ++ R)[3 + i]? = R[i]? := fun {R} i => by rw [List.getElem?_append_right (by omega), hBl, Nat.add_sub_cancel_left]
 have sx : ∀ {R : List Res} (i : Nat) (x : Res), (B ++ R).set (3 + i) x = B ++ R.set i x := fun {R} i x => by rw [List.set_append_right _ _ (by omega), hBl, Nat.add_sub_cancel_left]
 obtain ⟨C1, hC1⟩ : ∃ C1 : CatD, C1 = ⟨C.gen, C.next, set0, [], []⟩ := ⟨_, rfl⟩
 obtain ⟨C2, hC2⟩ : ∃ C2 : CatD, C2 = ⟨C.gen, C.next, C.set, [], []⟩ := ⟨_, rfl⟩
 obtain ⟨T2, hT2⟩ : ∃ T, numZ (polyZ C.set) ++ (varZ C.set.win ++ (varZ C.set.min ++ (varZ C.set.max ++ (varZ C.set.bits ++ (varZ (C.snaps.length : Int) ++ T7))))) = T := ⟨_, rfl⟩
 rw [hT2] at hL
 let J : Nat → Nat → World → Prop := fun b o w' => o = 0 ∧ H w' (some T2) [c9 b C1 none 0 0 none 0 0]
 have qS : ∀ {w' g9}, H w' (some T2) [c9 g9 cat0 none 0 0 none 0 0] → ∃ w2, (Instr.storeAt 47 (.pointer (some ⟨g9, 0, none⟩)) (.agg (catC C1 none 0 0 none 0 0).toArray)).run Tryz.prog w' = .ok () w2 ∧ J g9 0 w2 := fun {w' g9} h => by
   have h' := h
   obtain ⟨w2, r, h2⟩ := HoldsR.stA h' (i := 3) (v := catC C1 none 0 0 none 0 0) (ix 0) (caS16 _) rfl rfl (catC_one _ _ _ _ _ _ _)
   rw [sx 0] at h2
   exact ⟨w2, r, rfl, h2⟩
 have bld : ∀ v, (Instr.build 47 #[(0, .int .i64 C.gen), (1, .int .i64 C.next)]).run Tryz.prog v = .ok (.agg (catC C1 none 0 0 none 0 0).toArray) v := fun v => by rw [hC1]; exact cat_build2 _ _ v
 have D9 : H w9.drew (some (numZ C.gen ++ (numZ C.next ++ T2))) [] := by
   show HoldsR w w9.drew g a0 bn c0 (plainB C) _ (B ++ [])
   rw [List.append_nil, ← hL]; exact H9.same (Chg.drew [] w9)
 refine ⟨g, 0, rfl, _, rd_build g w7, g8, w8, r8, w9, r9, J, ⟨S0, ⟨_, _, D9⟩, _, _, fun v ⟨_, _, h⟩ => ldR h, _, _, fun v ⟨_, _, h⟩ => ldR h, (qN ok.gen D9).mono ?_, ?_⟩, ?_⟩
 · rintro e w10 ⟨rfl, H10⟩
   refine ⟨_, rfl, S0, fun _ h => h, ⟨_, _, H10⟩, (qN ok.next H10).mono ?_, ?_⟩
   · rintro e w11 ⟨rfl, H11⟩
     obtain ⟨g9, w12, r12, H12⟩ := qA H11
     obtain ⟨w13, r13, j13⟩ := qS H12
     exact ⟨_, rfl, S0, fun _ h => h, ⟨_, _, H11⟩, _, fun v _ => bld v, g9, w12, r12, S0, fun _ h => h, ⟨_, _, H12⟩, w13, r13, j13⟩
   · obtain ⟨g9, w12, r12, H12⟩ := qA H10
     refine ⟨g9, w12, r12, S0, fun _ h => h, ⟨_, _, H12⟩, (qN ok.next H12).mono ?_⟩
     rintro e w11 ⟨rfl, H11⟩
     obtain ⟨w13, r13, j13⟩ := qS H11
     exact ⟨_, rfl, S0, fun _ h => h, ⟨_, _, H11⟩, _, fun v _ => bld v, w13, r13, j13⟩
 · obtain ⟨g9, w12, r12, H12⟩ := qA D9
   refine ⟨g9, w12, r12, S0, fun _ h => h, ⟨_, _, H12⟩, (qN ok.gen H12).mono ?_⟩
   rintro e w10 ⟨rfl, H10⟩
   refine ⟨_, rfl, S0, fun _ h => h, ⟨_, _, H10⟩, (qN ok.next H10).mono ?_⟩
   rintro e w11 ⟨rfl, H11⟩
   obtain ⟨w13, r13, j13⟩ := qS H11
   exact ⟨_, rfl, S0, fun _ h => h, ⟨_, _, H11⟩, _, fun v _ => bld v, w13, r13, j13⟩
 rintro g9 o w21 ⟨rfl, H21⟩
 rw [← hT2] at H21
 have H21 : H w21.drew _ _ := HoldsR.same H21 (Chg.drew [] w21)
 refine ⟨S0, ⟨_, _, H21⟩, _, _, fun v ⟨_, _, h⟩ => ldR h, _, _, fun v ⟨_, _, h⟩ => ldR h, _, _, fun v ⟨_, _, h⟩ => ldR h, _, _, fun v ⟨_, _, h⟩ => ldR h, _, _, fun v ⟨_, _, h⟩ => ldR h, (qN (polyZ_rng _) H21).mono ?_⟩
 rintro e w22 ⟨rfl, H22⟩
 refine ⟨_, rfl, S0, fun _ h => h, ⟨_, _, H22⟩, (qV ok.set.1 H22).mono ?_⟩
 rintro e w23 ⟨rfl, H23⟩
 refine ⟨_, rfl, S0, fun _ h => h, ⟨_, _, H23⟩, (qV ok.set.2.1 H23).mono ?_⟩
 rintro e w24 ⟨rfl, H24⟩
 refine ⟨_, rfl, S0, fun _ h => h, ⟨_, _, H24⟩, (qV ok.set.2.2.1 H24).mono ?_⟩
 rintro e w25 ⟨rfl, H25⟩
 refine ⟨_, rfl, S0, fun _ h => h, ⟨_, _, H25⟩, (qV ok.set.2.2.2 H25).mono ?_⟩
 rintro e w26 ⟨rfl, H26⟩
 obtain ⟨w27, r27, H27⟩ := HoldsR.stAt H26 (i := 3) (o := 2) (v := setC C.set) (T := 44) (ix 0) (seS _) rfl (by simp [catC, setC]) (by simp [setC, Value.oneCell'])
 rw [sx 0] at H27
 have H27 : H w27 (some (varZ (C.snaps.length : Int) ++ T7)) [c9 g9 C2 none 0 0 none 0 0] := by rw [hC2]; rw [hC1] at H27; exact H27
 refine ⟨_, rfl, S0, fun _ h => h, ⟨_, _, H26⟩, _, fun v _ => by rw [polyZ_back ok.poly]; exact set_build _ v, w27, r27, _, _, ldR H27, (qV (z := (C.snaps.length : Int)) ⟨by omega, by omega⟩ H27).mono ?_⟩
 rintro e w28 ⟨rfl, H28⟩
 obtain ⟨sn, hsl⟩ : ∃ sn, C.snaps.length = sn := ⟨_, rfl⟩
 obtain ⟨pn, hpl2⟩ : ∃ pn, C.packs.length = pn := ⟨_, rfl⟩
 rw [hsl, hpl2]
 rw [hsl] at hsn
 rw [hpl2] at hpn hT8
 let rS (sa : Option Addr) (i sc : Nat) : Res := .row 89 36 (.slice sa i sc) i ((C.snaps.take i).flatMap snapC)
 let rP (pa : Option Addr) (j pc : Nat) : Res := .row 91 3 (.slice pa j pc) j ((C.packs.take j).flatMap pkC)
 let I1 : Nat → World → Prop := fun i w' => ∃ sa sc, H w' (some ((C.snaps.drop i).flatMap snapB ++ T8)) [c9 g9 C2 sa i sc none 0 0, rS sa i sc]
 have e28 : I1 0 w28 := by
   refine ⟨none, 0, ?_⟩
   rw [← hT7] at H28
   obtain ⟨M, _, hS, b⟩ := HoldsR.on H28
   have h := hS.addNil 89 36
   rw [List.append_assoc, List.append_assoc] at h
   exact b h
 refine ⟨_, rfl, fun x w' => ∃ i : Nat, x = ((sn - i : Nat) : Int) ∧ i ≤ sn ∧ I1 i w', fun x _ => x.toNat, ⟨0, rfl, by omega, e28⟩, ?_⟩
 rintro x w29 ⟨i, rfl, hi, sa, sc, H29⟩
 refine ⟨fun t w' => t = decide (i < sn) ∧ w' = w29, ⟨fun h => ⟨_, _, ldR H29, (HoldsR.err H29).mono ?_⟩, fun h => ⟨?_, rfl⟩⟩, ?_⟩
 · rintro e w30 ⟨rfl, rfl⟩
   refine ⟨_, rfl, _, eqlS_nil hI none _ _, ?_, rfl⟩
   simp at h
   simp; omega
 · simp at h
   simp; omega
 rintro t w31 ⟨rfl, rfl⟩
 refine ⟨fun hlt => ?_, fun hge => ?_⟩
 · have hi' : i < sn := by simpa using hlt
   obtain ⟨s, hs⟩ : ∃ s, C.snaps[i]? = some s := ⟨_, List.getElem?_eq_getElem (by omega)⟩
   rw [drop_one snapB C.snaps i s hs, List.append_assoc] at H29
   have H30 : H w31.drew _ _ := HoldsR.same H29 (Chg.drew [] w31)
   let S : World → Prop := fun w' => ∃ st R, H w' st (c9 g9 C2 sa i sc none 0 0 :: R)
   have hsb := catSnap_spec s (ok.snaps s (List.mem_of_getElem? hs)) (by omega) H30
   refine ⟨S, ⟨_, _, H30⟩, _, _, _, fun v ⟨_, _, h⟩ => (HoldsR.rest h).ldL (i := 3) (o := 7) (ix 0) (ssA _) (by omega) rfl, _, fun v ⟨_, _, h⟩ => ldG h, hsb.mono ?_⟩
   rintro e w32 ⟨rfl, H32⟩
   have H32 : H w32 _ _ := H32
   obtain ⟨gp, w33, va, vc, w34, r33, r34, H34, H33⟩ := HoldsR.pushA H32 (i := 4) (ty := 25) snT (ix 1) (snapC s) (snapC_len s) (by decide) (snapC_one s) (by omega) (by simp only [maxLen]; omega)
   rw [sx 1] at H34
   have H34 : H w34 (some ((C.snaps.drop (i + 1)).flatMap snapB ++ T8)) [c9 g9 C2 sa i sc none 0 0, rS va (i + 1) vc] := by
     show HoldsR w w34 g a0 bn c0 (plainB C) _ (B ++ [_, .row 89 36 (.slice va (i + 1) vc) (i + 1) ((C.snaps.take (i + 1)).flatMap snapC)])
     rw [flat_one snapC C.snaps i s hs]; exact H34
   obtain ⟨w35, r35, H35⟩ := HoldsR.stL H34 (i := 3) (o := 7) (v := .slice va (i + 1) vc) (T := 25) (ix 0) (ssS _) (by simp [catC, setC]) rfl
   rw [sx 0] at H35
   refine ⟨_, rfl, S, fun _ h => h, ⟨_, _, H32⟩, _, _, _, w33, r33, S, fun _ h => h, ⟨_, _, H33⟩, va, _, vc, w34, r34, S, fun _ h => h, ⟨_, _, H34⟩, w35, ?_, ⟨i + 1, ?_, by omega, va, vc, H35⟩, ?_⟩
   · simpa using r35
   · rw [wrap_i64 (n := ((sn - i : Nat) : Int) - 1) (by omega) (by omega)]; omega
   · show (IntKind.wrap .i64 (((sn - i : Nat) : Int) - 1)).toNat < (((sn - i : Nat) : Int)).toNat
     rw [wrap_i64 (n := ((sn - i : Nat) : Int) - 1) (by omega) (by omega)]; omega
 · have hi' : i = sn := by have : ¬ i < sn := by simpa using hge
                           omega
   have H31 : H w31 (some (varZ (pn : Int) ++ C.packs.flatMap pkB)) [c9 g9 C2 sa sn sc none 0 0, rS sa sn sc] := by
     rw [hi', ← hsl, List.drop_length, hsl, List.flatMap_nil, List.nil_append, ← hT8] at H29; exact H29
   refine ⟨_, _, ldR H31, (qV (z := (pn : Int)) ⟨by omega, by omega⟩ H31).mono ?_⟩
   rintro e w36 ⟨rfl, H36⟩
   let I2 : Nat → World → Prop := fun j w' => ∃ pa pc, H w' (some ((C.packs.drop j).flatMap pkB)) [c9 g9 C2 sa sn sc pa j pc, rS sa sn sc, rP pa j pc]
   have e36 : I2 0 w36 := by
     refine ⟨none, 0, ?_⟩
     obtain ⟨M, _, hS, b⟩ := HoldsR.on H36
     have h := hS.addNil 91 3
     rw [List.append_assoc, List.append_assoc] at h
     exact b h
   refine ⟨_, rfl, fun x w' => ∃ j : Nat, x = ((pn - j : Nat) : Int) ∧ j ≤ pn ∧ I2 j w', fun x _ => x.toNat, ⟨0, rfl, by omega, e36⟩, ?_⟩
   rintro x w37 ⟨j, rfl, hj, pa, pc, H37⟩
   refine ⟨fun t w' => t = decide (j < pn) ∧ w' = w37, ⟨fun h => ⟨_, _, ldR H37, (HoldsR.err H37).mono ?_⟩, fun h => ⟨?_, rfl⟩⟩, ?_⟩
   · rintro e w38 ⟨rfl, rfl⟩
     refine ⟨_, rfl, _, eqlS_nil hI none _ _, ?_, rfl⟩
     simp at h
     simp; omega
   · simp at h
     simp; omega
   rintro t w39 ⟨rfl, rfl⟩
   refine ⟨fun hlt => ?_, fun hge => ?_⟩
   · have hj' : j < pn := by simpa using hlt
     obtain ⟨p, hp⟩ : ∃ p, C.packs[j]? = some p := ⟨_, List.getElem?_eq_getElem (by omega)⟩
     have hpo := ok.packs p (List.mem_of_getElem? hp)
     have epk : pkB p ++ (C.packs.drop (j + 1)).flatMap pkB = varZ p.num ++ (varZ p.size ++ (varZ p.count ++ (C.packs.drop (j + 1)).flatMap pkB)) := by simp [pkB, varsZ, List.append_assoc]
     rw [drop_one pkB C.packs j p hp, epk] at H37
     have H38 : H w39.drew _ _ := HoldsR.same H37 (Chg.drew [] w39)
     let S : World → Prop := fun w' => ∃ st R, H w' st (c9 g9 C2 sa sn sc pa j pc :: R)
     refine ⟨S, ⟨_, _, H38⟩, _, _, _, fun v ⟨_, _, h⟩ => (HoldsR.rest h).ldL (i := 3) (o := 8) (ix 0) (psA _) (by omega) rfl, _, _, fun v ⟨_, _, h⟩ => ldR h, _, _, fun v ⟨_, _, h⟩ => ldR h, _, _, fun v ⟨_, _, h⟩ => ldR h, (qV hpo.1 H38).mono ?_⟩
     rintro e w40 ⟨rfl, H40⟩
     refine ⟨_, rfl, S, fun _ h => h, ⟨_, _, H40⟩, (qV hpo.2.1 H40).mono ?_⟩
     rintro e w41 ⟨rfl, H41⟩
     refine ⟨_, rfl, S, fun _ h => h, ⟨_, _, H41⟩, (qV hpo.2.2 H41).mono ?_⟩
     rintro e w42 ⟨rfl, H42⟩
     obtain ⟨gp, w43, va, vc, w44, r43, r44, H44, H43⟩ := HoldsR.pushA H42 (i := 5) (ty := 45) pqT (ix 2) (pkC p) rfl (by decide) (by simp [pkC, Value.oneCell']) (by omega) (by simp only [maxLen]; omega)
     rw [sx 2] at H44
     have H44 : H w44 (some ((C.packs.drop (j + 1)).flatMap pkB)) [c9 g9 C2 sa sn sc pa j pc, rS sa sn sc, rP va (j + 1) vc] := by
       show HoldsR w w44 g a0 bn c0 (plainB C) _ (B ++ [_, _, .row 91 3 (.slice va (j + 1) vc) (j + 1) ((C.packs.take (j + 1)).flatMap pkC)])
       rw [flat_one pkC C.packs j p hp]; exact H44
     obtain ⟨w45, r45, H45⟩ := HoldsR.stL H44 (i := 3) (o := 8) (v := .slice va (j + 1) vc) (T := 45) (ix 0) (psS _) (by simp [catC, setC]) rfl
     rw [sx 0] at H45
     refine ⟨_, rfl, S, fun _ h => h, ⟨_, _, H42⟩, _, fun v _ => pq_build p v, _, _, _, w43, r43, S, fun _ h => h, ⟨_, _, H43⟩, va, _, vc, w44, r44, S, fun _ h => h, ⟨_, _, H44⟩, w45, ?_, ⟨j + 1, ?_, by omega, va, vc, H45⟩, ?_⟩
     · simpa using r45
     · rw [wrap_i64 (n := ((pn - j : Nat) : Int) - 1) (by omega) (by omega)]; omega
     · show (IntKind.wrap .i64 (((pn - j : Nat) : Int) - 1)).toNat < (((pn - j : Nat) : Int)).toNat
       rw [wrap_i64 (n := ((pn - j : Nat) : Int) - 1) (by omega) (by omega)]; omega
   · have hj' : j = pn := by have : ¬ j < pn := by simpa using hge
                             omega
     have H39 : H w39 (some []) [c9 g9 C2 sa sn sc pa pn pc, .row 89 36 (.slice sa sn sc) sn (C.snaps.flatMap snapC), .row 91 3 (.slice pa pn pc) pn (C.packs.flatMap pkC)] := by
       rw [hj', ← hpl2, List.drop_length, hpl2, List.flatMap_nil] at H37
       have e1 : rS sa sn sc = .row 89 36 (.slice sa sn sc) sn (C.snaps.flatMap snapC) := by show Res.row _ _ _ _ ((C.snaps.take sn).flatMap snapC) = _; rw [← hsl, List.take_length]
       have e2 : rP pa pn pc = .row 91 3 (.slice pa pn pc) pn (C.packs.flatMap pkC) := by show Res.row _ _ _ _ ((C.packs.take pn).flatMap pkC) = _; rw [← hpl2, List.take_length]
       rw [e1, e2] at H37; exact H37
     have hrS : RdS w39 sa sn sc C.snaps := ⟨(HoldsR.rest H39).rd (i := 4) (ix 1), fun s _ => snapC_len s⟩
     have hrP : RdE pkC 3 w39 pa pn pc C.packs := ⟨(HoldsR.rest H39).rd (i := 5) (ix 2), fun _ _ => rfl⟩
     have eC : catC C2 sa sn sc pa pn pc = catC C sa sn sc pa pn pc := by rw [hC2]; rfl
     have ld9 : ∀ {w'}, H w' (some []) [c9 g9 C2 sa sn sc pa pn pc, .row 89 36 (.slice sa sn sc) sn (C.snaps.flatMap snapC), .row 91 3 (.slice pa pn pc) pn (C.packs.flatMap pkC)] → (Instr.loadAt 47 (.pointer (some ⟨g9, 0, none⟩))).run Tryz.prog w' = .ok (.agg (catC C sa sn sc pa pn pc).toArray) w' := fun h => by
       rw [← eC]; exact (HoldsR.rest h).ldA (i := 3) (ix 0) (caA16 _) (caS16 _) rfl
     refine ⟨fun t w' => t = false ∧ H w' (some []) [c9 g9 C2 sa sn sc pa pn pc, .row 89 36 (.slice sa sn sc) sn (C.snaps.flatMap snapC), .row 91 3 (.slice pa pn pc) pn (C.packs.flatMap pkC)], ⟨_, _, ldR H39, (HoldsR.done H39).mono ?_⟩, ?_⟩
     · rintro e w46 ⟨rfl, rfl⟩
       refine ⟨_, rfl, _, neqS_nil hI none _ _, fun h => by simp at h, fun _ => ⟨_, ld9 H39, (catCheck_spec C sa sn sc pa pn pc w46 ⟨ok.poly, hrS, hrP, fun s hs => by have := (ok.snaps s hs).1; omega⟩).mono ?_⟩⟩
       rintro e w47 ⟨rfl, c47⟩
       rw [hc]
       exact ⟨_, rfl, _, neqS_nil hI none _ _, rfl, HoldsR.same H39 c47⟩
     · rintro t w48 ⟨rfl, H48⟩
       refine ⟨fun h => by simp at h, fun _ => ?_⟩
       obtain ⟨w49, r49, H49⟩ := HoldsR.stA H48 (i := 1) (v := catC C sa sn sc pa pn pc) (T := 47) (by rw [← hB]; rfl) (caS16 _) rfl rfl (catC_one _ _ _ _ _ _ _)
       refine ⟨_, ld9 H48, w49, r49, _, (HoldsR.rest H49).ldVarA (i := 1) (l := catC C sa sn sc pa pn pc) (by rw [← hB]; rfl) (caA16 _) (caS16 _) rfl, sa, sc, pa, pc, rfl, ?_⟩
       refine (HoldsR.rest H49).sub ?_
       rw [← hB]
       exact (List.sublist_append_right [_, _, _, _] [_, _])

end Go.Proofs.YtpmhjnhgpplmnaaGreatDoor
end

section
namespace Go.Proofs.YtpmhjnhgpplmnaaGreatDoor
open Go Go.RowKit Go.Extern.Stop Go.Stop Go.Extern
set_option maxRecDepth 8000

theorem isTypeOf65 (v : Value) (w : World) : (Extern.ReflectliteType.typeOf #[.iface 65 v]).run Tryz.prog w = .ok (.iface 346 (.agg #[.pointer (some ⟨7, 65, none⟩)])) w := by kernel_rfl
def cmpE : Array Value → Sem Value := Extern.ReflectliteType.method fun t => do Extern.Rtype.noPackHeld "Comparable" t; pure (.bool (← typeInfo t).comparable)
theorem isComparable65 (w : World) : (cmpE #[.agg #[.pointer (some ⟨7, 65, none⟩)]]).run Tryz.prog w = .ok (.bool true) w := by kernel_rfl
theorem isMethodComparable (v : Value) (w : World) : (Go.method 614 346 v "Comparable").run Tryz.prog w = .ok (406, v) w := by kernel_rfl
theorem noIs65 (v : Value) (xT : TypeId) (w : World) : (Instr.typeAssert (.iface 65 v) xT 348 true).run Tryz.prog w = .ok (.tuple #[.nilIface, .bool false]) w := run_typeAssert_lacksB Tryz.underlying348 (by kernel_rfl) (by kernel_rfl) v xT w
theorem noUnwrap65 (v : Value) (xT : TypeId) (w : World) : (Instr.typeAssert (.iface 65 v) xT 351 true).run Tryz.prog w = .ok (.tuple #[.nilIface, .bool false]) w := run_typeAssert_lacksB Tryz.underlying351 (by kernel_rfl) (by kernel_rfl) v xT w
theorem noUnwraps65 (v : Value) (xT : TypeId) (w : World) : (Instr.typeAssert (.iface 65 v) xT 352 true).run Tryz.prog w = .ok (.tuple #[.nilIface, .bool false]) w := run_typeAssert_lacksB Tryz.underlying352 (by kernel_rfl) (by kernel_rfl) v xT w
theorem eql65 (k n : Int) (w : World) : (binOp .eql 58 (.iface 65 (.int .i64 k)) (.iface 65 (.int .i64 n))).run Tryz.prog w = .ok (.bool (k == n)) w := by
 have hE := Tryz.underlying65
 have hT := Tryz.underlying58
 have hI : (typeInfo 65).run Tryz.prog w = .ok Tryz.t65 w := by
   simp [typeInfo, show Tryz.prog.info? 65 = some Tryz.t65 by kernel_rfl]
 have hc : Tryz.t65.comparable = true := by kernel_rfl
 have h1 : ∀ d k, (Op.equalIn (d + 2) 58 (.iface 65 (.int .i64 k)) (.iface 65 (.int .i64 n))).run Tryz.prog w = .ok (k == n) w := fun d k => by
   simp [Op.equalIn, run_underlying hT, run_underlying hE, hI, hc]
 simp [binOp, Op.equal, show Op.maxDepth = 9998 + 2 from rfl, h1 9998]

theorem is_nil65 (n : Int) (w : World) :
   Calls Tryz.prog 90 #[.nilIface, .iface 65 (.int .i64 n)] w fun e w' => e = .returned (.bool false) ∧ w' = w := by
 have hn := run_eql_iface_nil_left (P := Tryz.prog) w 65 (.int .i64 n) Tryz.underlying58
 go_enter Tryz.func90, Tryz.ntmps90
 go_wp2
 go_ret
 exact ⟨rfl, rfl⟩
theorem is_65 (k n : Int) (w : World) :
   Calls Tryz.prog 90 #[.iface 65 (.int .i64 k), .iface 65 (.int .i64 n)] w fun e w' => e = .returned (.bool (k == n)) ∧ w' = w := by
 have h8 := @run_callFunc_extern Tryz.prog 184 _ Extern.ReflectliteType.typeOf Tryz.func184 (by kernel_rfl) (by kernel_rfl) (by kernel_rfl) (by kernel_rfl)
 have h32 := @run_callFunc_extern Tryz.prog 406 _ cmpE Tryz.func406 (by kernel_rfl) (by kernel_rfl) (by kernel_rfl) (by kernel_rfl)
 have tT := isTypeOf65
 have cT := isComparable65
 have mR := isMethodComparable
 have nE := noIs65
 have uE := noUnwrap65
 have vE := noUnwraps65
 have heq := eql65 k n w
 cases hb : (k == n) with
 | true =>
   rw [hb] at heq
   go_enter Tryz.func90, Tryz.ntmps90
   go_wp2
   refine wp_loop_rounds 1 ?_
   rw [rounds_succ]
   go_wp2
   go_ret
   exact ⟨rfl, rfl⟩
 | false =>
   rw [hb] at heq
   go_enter Tryz.func90, Tryz.ntmps90
   go_wp2
   refine wp_loop_rounds 1 ?_
   rw [rounds_succ]
   go_wp2
   go_ret
   exact ⟨rfl, rfl⟩

open Sx in
theorem errIs_spec (o : Option Int) (n : Int) (w : World) : Calls Tryz.prog 90 #[errV o, .iface 65 (.int .i64 n)] w fun e w' => e = .returned (.bool (decide (o = some n))) ∧ w' = w := by
 cases o with
 | none => exact is_nil65 n w
 | some k =>
   refine (is_65 k n w).mono ?_
   rintro e w' ⟨rfl, rfl⟩
   have : decide (some k = some n) = (k == n) := by rw [Bool.eq_iff_iff]; simp
   rw [this]
   exact ⟨rfl, rfl⟩

end Go.Proofs.YtpmhjnhgpplmnaaGreatDoor
end

section
namespace Go.Proofs.YtpmhjnhgpplmnaaGreatDoor
open Go Sx
set_option maxRecDepth 8000

structure FV where
 name : Nm
 a : Option Addr
 c : Nat
 data : List UInt8
def FV.cells (v : FV) : List Value := [strV v.name, .slice v.a v.data.length v.c]
def FV.row (v : FV) : Res := .row 5 1 (.slice v.a v.data.length v.c) v.data.length (bv v.data)
def FV.t (v : FV) : Nm × List UInt8 := (v.name, v.data)
section
variable {w0 w w' : World} {X : List Nat} {N N' : List Res} {gd : Nat} {ps : List Nat} {m : DiskM}

theorem DMem.file {p : DP} (hp : DMem m p) {i : Nat} (hi : i < m.files.length) : ∃ f, p.FL[i]? = some f ∧ p.ps.getD i 0 = f.g ∧ fileAt m.files i = ⟨f.data, f.syn⟩ ∧ f.data.length ≤ 1099511627776 ∧ f.syn ≤ f.data.length := by
 have hl : p.FL.length = m.files.length := by have := congrArg List.length hp.files; simpa using this
 have hf : p.FL[i]? = some p.FL[i] := List.getElem?_eq_getElem (by omega)
 have hfm : fileAt m.files i = ⟨p.FL[i].data, p.FL[i].syn⟩ := by
   rw [← hp.files]
   simp [fileAt, List.getD, show i < p.FL.length by omega, FR.m]
 have := hp.fsyn (fileAt m.files i) (by simp [fileAt, List.getD, hi])
 rw [hfm] at this
 exact ⟨p.FL[i], hf, by simp [DP.ps, List.getD, show i < p.FL.length by omega], hfm, this.2, this.1⟩

end

end Go.Proofs.YtpmhjnhgpplmnaaGreatDoor
end

section
namespace Go.Proofs.YtpmhjnhgpplmnaaGreatDoor
open Go Sx
set_option maxRecDepth 8000

section
variable {w0 w w' : World} {X : List Nat} {N N' T : List Res} {gd : Nat} {ps : List Nat} {m : DiskM}

theorem listD_spec (h : DiskIn w0 X w gd ps m N) : Calls Tryz.prog 80 #[.pointer (some ⟨gd, 0, none⟩)] w fun e w' => ∃ a c, e = .returned (.slice a (namesM m).length c) ∧ St w [] w' [.row 9 1 (.slice a (namesM m).length c) (namesM m).length ((namesM m).map strV)] := by
 obtain ⟨p, hps, hp, hS⟩ := h
 exact list_spec hp.mem hS
end

end Go.Proofs.YtpmhjnhgpplmnaaGreatDoor
end

section
namespace Go.Proofs.YtpmhjnhgpplmnaaGreatDoor
open Go Sx
set_option maxRecDepth 8000

def thenM (r : DiskM × Option Int) (f : DiskM → DiskM × Option Int) : DiskM × Option Int := match r.2 with
 | some e => (r.1, some e)
 | none => f r.1
def tN : Nm := [116]
def hasN (m : DiskM) (n : Nm) : Bool := (namesM m).contains n
def downE (e : Int) : Int := if e = 1 then 1 else 22
def undoM (n : Nm) (e : Int) (m : DiskM) : DiskM × Option Int := match (removeM m n).2 with
 | some x => ((removeM m n).1, some (downE x))
 | none => match (syncDirM (removeM m n).1).2 with
   | some x => ((syncDirM (removeM m n).1).1, some (downE x))
   | none => ((syncDirM (removeM m n).1).1, some e)
def endM (n : Nm) (m : DiskM) : DiskM × Option Int := match (syncDirM m).2 with
 | none => ((syncDirM m).1, none)
 | some e => if e = 1 then ((syncDirM m).1, some 1) else undoM n e (syncDirM m).1
def stepC (b : List UInt8) (n : Nm) (i : Nat) (m : DiskM) : DiskM × Option Int := match i with
 | 0 => createM m tN
 | 1 => appendM m tN [b]
 | 2 => syncM m tN
 | 3 => syncDirM m
 | _ => renameM m tN n
def runC (b : List UInt8) (n : Nm) : Nat → DiskM → DiskM × Option Int
 | 0, m => endM n m
 | k + 1, m => thenM (stepC b n (4 - k) m) (runC b n k)
def asideM (n : Nm) (m : DiskM) : DiskM × Option Int := if hasN m n then removeM m n else (m, none)
noncomputable def commitM (K : List UInt8) (C : CatD) (m : DiskM) : DiskM × Option Int :=
 if checkB C then thenM (asideM tN m) (runC (encC K C) (nameD 99 C.gen) 5) else (m, some 28)

def Cnt (k : Nat) (m m' : DiskM) : Prop := m'.steps ≤ m.steps + k ∧ m'.chs.length ≤ m.chs.length + k
theorem Cnt.refl (m : DiskM) : Cnt 0 m m := ⟨Nat.le_refl _, Nat.le_refl _⟩
theorem Cnt.trans {j k : Nat} {a b c : DiskM} (h : Cnt j a b) (h2 : Cnt k b c) : Cnt (j + k) a c := ⟨by have := h.1; have := h2.1; omega, by have := h.2; have := h2.2; omega⟩
theorem Cnt.mono {j k : Nat} {a b : DiskM} (h : Cnt j a b) (hk : j ≤ k) : Cnt k a b := ⟨by have := h.1; omega, by have := h.2; omega⟩
theorem step_cnt (m : DiskM) : Cnt 1 m (stepM m).1 := by
 unfold stepM Cnt
 split
 · exact ⟨Nat.le_succ _, Nat.le_succ _⟩
 · split <;> exact ⟨Nat.le_refl _, Nat.le_succ _⟩
theorem steps_cnt (m : DiskM) {f : DiskM → DiskM} (hf : ∀ m, (f m).steps = m.steps ∧ (f m).chs.length ≤ m.chs.length + 1) : Cnt 1 m (stepsM m f).1 := by
 have h := step_cnt m
 have hc : (stepM m).1.chs = m.chs := by
   unfold stepM
   split
   · rfl
   · split <;> rfl
 unfold stepsM
 split
 · exact h
 · have := hf (stepM m).1
   refine ⟨by have := h.1; show (f (stepM m).1).steps ≤ _; omega, ?_⟩
   rw [hc] at this
   exact this.2
theorem doCh_cnt (m : DiskM) (c : ChM) : (doCh m c).steps = m.steps ∧ (doCh m c).chs.length ≤ m.chs.length + 1 := ⟨rfl, by simp [doCh]⟩
theorem create_cnt (m : DiskM) (n : Nm) : Cnt 1 m (createM m n).1 := by
 unfold createM
 split
 · exact (Cnt.refl m).mono (by omega)
 · split
   · exact (Cnt.refl m).mono (by omega)
   · split
     · exact (Cnt.refl m).mono (by omega)
     · exact steps_cnt m fun m => doCh_cnt m _
theorem append_cnt (m : DiskM) (n : Nm) (ps : List (List UInt8)) : Cnt 1 m (appendM m n ps).1 := by
 unfold appendM
 split
 · exact (Cnt.refl m).mono (by omega)
 · split
   · exact steps_cnt m fun m => ⟨rfl, Nat.le_succ _⟩
   · exact (Cnt.refl m).mono (by omega)
theorem sync_cnt (m : DiskM) (n : Nm) : Cnt 1 m (syncM m n).1 := by
 unfold syncM
 split
 · exact (Cnt.refl m).mono (by omega)
 · exact steps_cnt m fun m => ⟨rfl, Nat.le_succ _⟩
theorem syncDir_cnt (m : DiskM) : Cnt 1 m (syncDirM m).1 := by
 unfold syncDirM
 split
 · exact (Cnt.refl m).mono (by omega)
 · exact steps_cnt m fun m => ⟨rfl, by simp [syncDirF]⟩
theorem rename_cnt (m : DiskM) (a b : Nm) : Cnt 1 m (renameM m a b).1 := by
 unfold renameM
 split
 · exact (Cnt.refl m).mono (by omega)
 · split
   · exact (Cnt.refl m).mono (by omega)
   · exact steps_cnt m fun m => doCh_cnt m _
theorem remove_cnt (m : DiskM) (n : Nm) : Cnt 1 m (removeM m n).1 := by
 unfold removeM
 split
 · exact (Cnt.refl m).mono (by omega)
 · exact steps_cnt m fun m => doCh_cnt m _
theorem stepC_cnt (b : List UInt8) (n : Nm) (i : Nat) (m : DiskM) : Cnt 1 m (stepC b n i m).1 := by
 unfold stepC
 split
 · exact create_cnt _ _
 · exact append_cnt _ _ _
 · exact sync_cnt _ _
 · exact syncDir_cnt _
 · exact rename_cnt _ _ _
theorem aside_cnt (n : Nm) (m : DiskM) : Cnt 1 m (asideM n m).1 := by
 unfold asideM
 split
 · exact remove_cnt _ _
 · exact (Cnt.refl m).mono (by omega)

theorem indexS_spec (a : Option Addr) (n c : Nat) (ns : List Nm) (x : Nm) (w : World) (hr : Rd w a n c 1 (ns.map strV)) (hb : n ≤ 4611686018427387904) :
   Calls Tryz.prog 183 #[.slice a n c, strV x] w fun e w' => ∃ t : Int, e = .returned (.int .i64 t) ∧ decide (t ≥ 0) = ns.contains x ∧ w' = w := by
 have hln : ns.length = n := by have := hr.len; simpa using this
 apply slices_Index_string_string_vc
 refine ⟨fun y w' => ∃ i : Nat, y = (i : Int) ∧ i ≤ n ∧ (ns.take i).contains x = false ∧ w' = w, fun y _ => n - y.toNat, ⟨0, rfl, by omega, by simp, rfl⟩, ?_⟩
 rintro y w1 ⟨i, rfl, hi, hno, rfl⟩
 refine ⟨fun h => ?_, fun h => ?_⟩
 · have hi' : i < n := by simp at h; omega
   obtain ⟨s, hs⟩ : ∃ s, ns[i]? = some s := ⟨_, List.getElem?_eq_getElem (by omega)⟩
   obtain ⟨b, o, ha, hc⟩ := hr.cells.at_ (i := i) (v := strV s) (by rw [List.getElem?_map, hs]; rfl)
   refine ⟨b, o, ha, by omega, by omega, _, by rw [Int.toNat_natCast, Nat.mul_one]; exact ld1 (stA' _) hc, fun h => ?_, fun h => ⟨⟨i + 1, wrap_succ hi' hb, by omega, ?_, rfl⟩, mu_succ hi' hb⟩⟩
   · rw [ByteArray.toList_eq, ByteArray.toList_eq] at h
     have : x = s := by simpa using h
     refine ⟨_, rfl, ?_, rfl⟩
     have hm : ns.contains x = true := by rw [List.contains_iff_mem, this]; exact List.mem_of_getElem? hs
     rw [hm]; simp
   · rw [ByteArray.toList_eq, ByteArray.toList_eq] at h
     have hne : x ≠ s := by simpa using h
     rw [List.take_add_one, hs]
     rw [← Bool.not_eq_true, List.contains_iff_mem] at hno ⊢
     simp only [Option.toList, List.mem_append, List.mem_singleton, not_or]
     exact ⟨hno, hne⟩
 · have hi' : i = n := by simp at h; omega
   rw [hi', ← hln, List.take_length] at hno
   exact ⟨_, rfl, by rw [hno]; simp, rfl⟩
theorem containsS_spec (a : Option Addr) (n c : Nat) (ns : List Nm) (x : Nm) (w : World) (hr : Rd w a n c 1 (ns.map strV)) (hb : n ≤ 4611686018427387904) :
   Calls Tryz.prog 88 #[.slice a n c, strV x] w fun e w' => e = .returned (.bool (ns.contains x)) ∧ w' = w := by
 apply slices_Contains_string_string_vc
 refine (indexS_spec a n c ns x w hr hb).mono ?_
 rintro e w' ⟨t, rfl, h1, rfl⟩
 exact ⟨t, rfl, by rw [h1], rfl⟩

end Go.Proofs.YtpmhjnhgpplmnaaGreatDoor
end

section
namespace Go.Proofs.YtpmhjnhgpplmnaaGreatDoor
open Go Sx
set_option maxRecDepth 8000

def pV (g : Nat) : Value := .pointer (some ⟨g, 0, none⟩)
def clsV (f : Nat) (pre cb : List Value) : Value := .func (.func f) pre.toArray cb.toArray
theorem fn2_build (g3 g4 gd : Nat) (w : World) : (Instr.build 355 #[(0, clsV 262 [] [pV g3, pV g4]), (1, clsV 84 [pV gd] [])]).run Tryz.prog w = .ok (.agg #[clsV 262 [] [pV g3, pV g4], clsV 84 [pV gd] []]) w := by kernel_rfl
theorem fn2_ix0 (a b : Value) (w : World) : (Instr.index 355 (.agg #[a, b]) (.int .i64 0)).run Tryz.prog w = .ok a w := by kernel_rfl
theorem fn2_ix1 (a b : Value) (w : World) : (Instr.index 355 (.agg #[a, b]) (.int .i64 1)).run Tryz.prog w = .ok b w := by kernel_rfl
theorem fn5_build (g3 g7 gd g10 : Nat) (w : World) : (Instr.build 279 #[(0, clsV 186 [] [pV g3]), (1, clsV 187 [] [pV g3, pV g7]), (2, clsV 188 [] [pV g3]), (3, clsV 84 [pV gd] []), (4, clsV 189 [] [pV g3, pV g10])]).run Tryz.prog w =
   .ok (.agg #[clsV 186 [] [pV g3], clsV 187 [] [pV g3, pV g7], clsV 188 [] [pV g3], clsV 84 [pV gd] [], clsV 189 [] [pV g3, pV g10]]) w := by kernel_rfl
theorem fn5_ix (a b c d e : Value) (w : World) : (Instr.index 279 (.agg #[a, b, c, d, e]) (.int .i64 0)).run Tryz.prog w = .ok a w ∧ (Instr.index 279 (.agg #[a, b, c, d, e]) (.int .i64 1)).run Tryz.prog w = .ok b w ∧ (Instr.index 279 (.agg #[a, b, c, d, e]) (.int .i64 2)).run Tryz.prog w = .ok c w ∧
   (Instr.index 279 (.agg #[a, b, c, d, e]) (.int .i64 3)).run Tryz.prog w = .ok d w ∧ (Instr.index 279 (.agg #[a, b, c, d, e]) (.int .i64 4)).run Tryz.prog w = .ok e w := ⟨by kernel_rfl, by kernel_rfl, by kernel_rfl, by kernel_rfl, by kernel_rfl⟩
theorem pdA (w : World) : (isAgg 51).run Tryz.prog w = .ok false w := Tryz.isAgg51 w

section
variable {w0 w w' : World} {X : List Nat} {N T : List Res} {gd : Nat} {ps : List Nat} {m : DiskM}
theorem DiskIn.top (h : DiskIn w0 X w gd ps m (N ++ T)) : St w0 X w T := h.rest.sub (List.sublist_append_right _ _)
theorem DiskIn.cut (h : DiskIn w0 X w gd ps m (N ++ T)) : DiskIn w0 X w gd ps m N := h.subN (List.sublist_append_left _ _)

def B63 (k : Nat) (m : DiskM) : Prop := m.steps + k ≤ 4611686018427387000 ∧ m.chs.length + k ≤ 999999000
theorem B63.of {j k : Nat} {m m' : DiskM} (h : B63 (j + k) m) (hc : Cnt j m m') : B63 k m' := ⟨by have := h.1; have := hc.1; omega, by have := h.2; have := hc.2; omega⟩
theorem B63.s {k : Nat} (h : B63 k m) : m.steps < 4611686018427387904 := by have := h.1; omega
theorem B63.c {k : Nat} (h : B63 k m) : m.chs.length < 1000000000 := by have := h.2; omega

theorem ldQ {T : List Res} {i g : Nat} {ty : TypeId} {v : Value} (h : St w0 X w T) (hi : T[i]? = some (.arr g ty [v])) (ha : (isAgg ty).run Tryz.prog w = .ok false w) : (Instr.loadAt ty (pV g)).run Tryz.prog w = .ok v w := h.ldL (i := i) (o := 0) hi ha rfl rfl

theorem undo_spec (n : Nm) (e0 : Int) (h : DiskIn w0 X w gd ps m N) (hb : B63 2 m) :
   Calls Tryz.prog 191 #[pV gd, strV n, errV (some e0)] w fun e w' => e = .returned (errV (undoM n e0 m).2) ∧ ∃ ps', DiskIn w0 X w' gd ps' (undoM n e0 m).1 N := by
 obtain ⟨mI, hI⟩ := eI
 apply catalog_undo_vc
 obtain ⟨g3, w1, r1, k1⟩ := (St.start w).box (P := Tryz.prog) 51 (pV gd)
 obtain ⟨g4, w2, r2, k2⟩ := k1.box (P := Tryz.prog) 9 (strV n)
 have k2 : St w [] w2 [.arr g3 51 [pV gd], .arr g4 9 [strV n]] := k2
 have h2 := h.addSt k2
 refine ⟨g3, w1, r1, g4, w2, r2, clsV 262 [] [pV g3, pV g4], w2, rfl, _, _, ldQ (i := 0) k2 rfl (pdA _), clsV 84 [pV gd] [], w2, rfl, _, fn2_build g3 g4 gd w2, fun x w' => (x = 0 ∧ ∃ ps', DiskIn w0 X w' gd ps' m (N ++ [.arr g3 51 [pV gd], .arr g4 9 [strV n]])) ∨ (x = 1 ∧ (removeM m n).2 = none ∧ ∃ ps', DiskIn w0 X w' gd ps' (removeM m n).1 (N ++ [.arr g3 51 [pV gd], .arr g4 9 [strV n]])) ∨ (x = 2 ∧ undoM n e0 m = ((syncDirM (removeM m n).1).1, some e0) ∧ ∃ ps', DiskIn w0 X w' gd ps' (syncDirM (removeM m n).1).1 (N ++ [.arr g3 51 [pV gd], .arr g4 9 [strV n]])), fun x _ => (2 - x).toNat, .inl ⟨rfl, ps, h2⟩, ?_⟩
 rintro x w5 hx
 have hu1 : ∀ y, (removeM m n).2 = some y → undoM n e0 m = ((removeM m n).1, some (downE y)) := fun y hy => by unfold undoM; rw [hy]
 have hu2 : ∀ y, (removeM m n).2 = none → (syncDirM (removeM m n).1).2 = some y → undoM n e0 m = ((syncDirM (removeM m n).1).1, some (downE y)) := fun y hn hy => by unfold undoM; rw [hn]; simp only; rw [hy]
 have hu3 : (removeM m n).2 = none → (syncDirM (removeM m n).1).2 = none → undoM n e0 m = ((syncDirM (removeM m n).1).1, some e0) := fun hn hy => by unfold undoM; rw [hn]; simp only; rw [hy]
 refine ⟨fun hlt => ?_, fun hge => ?_⟩
 · rcases hx with ⟨rfl, ps', h5⟩ | ⟨rfl, hrm, ps', h5⟩ | ⟨rfl, _⟩
   · refine ⟨_, fn2_ix0 _ _ w5, 262, [], [pV g3, pV g4], rfl, by kernel_rfl, ?_⟩
     show Calls _ _ #[pV g3, pV g4] _ _
     apply catalog_undo_1_vc
     refine ⟨_, _, ldQ (i := 0) h5.top rfl (pdA _), _, ldQ (i := 1) h5.top rfl (stA' _), (remove_spec n h5 hb.s hb.c).mono ?_⟩
     rintro e w6 ⟨rfl, h6⟩
     refine ⟨_, rfl, _, rfl, (errIs_spec (removeM m n).2 1 w6).mono ?_⟩
     rintro e w7 ⟨rfl, rfl⟩
     refine ⟨_, rfl, fun h => ?_, fun h => ⟨_, neqS_nil hI _ _ _, fun h2 => ?_, fun h2 => ⟨.inr (.inl ⟨rfl, by simpa using h2, ps', h6⟩), by show (2 - IntKind.wrap .i64 (0 + 1)).toNat < ((2 : Int) - 0).toNat; decide⟩⟩⟩
     · have h : (removeM m n).2 = some 1 := by simpa using h
       rw [hu1 1 h, h]
       exact ⟨rfl, ps', h6.cut⟩
     · obtain ⟨y, hy⟩ := Option.isSome_iff_exists.1 h2
       have hne : ¬ y = 1 := by rw [hy] at h; simpa using h
       rw [hu1 y hy, downE, if_neg hne]
       exact ⟨rfl, ps', h6.cut⟩
   · have hb2 : B63 1 (removeM m n).1 := hb.of (j := 1) (remove_cnt m n)
     refine ⟨_, fn2_ix1 _ _ w5, 84, [pV gd], [], rfl, by kernel_rfl, ?_⟩
     show Calls _ _ #[pV gd] _ _
     refine (syncDir_spec h5 hb2.s).mono ?_
     rintro e w6 ⟨rfl, h6⟩
     refine ⟨_, rfl, (errIs_spec (syncDirM (removeM m n).1).2 1 w6).mono ?_⟩
     rintro e w7 ⟨rfl, rfl⟩
     refine ⟨_, rfl, fun h => ?_, fun h => ⟨_, neqS_nil hI _ _ _, fun h2 => ?_, fun h2 => ⟨.inr (.inr ⟨rfl, hu3 hrm (by simpa using h2), ps', h6⟩), by show (2 - IntKind.wrap .i64 (1 + 1)).toNat < ((2 : Int) - 1).toNat; decide⟩⟩⟩
     · have h : (syncDirM (removeM m n).1).2 = some 1 := by simpa using h
       rw [hu2 1 hrm h, h]
       exact ⟨rfl, ps', h6.cut⟩
     · obtain ⟨y, hy⟩ := Option.isSome_iff_exists.1 h2
       have hne : ¬ y = 1 := by rw [hy] at h; simpa using h
       rw [hu2 y hrm hy, downE, if_neg hne]
       exact ⟨rfl, ps', h6.cut⟩
   · simp at hlt
 · rcases hx with ⟨rfl, _⟩ | ⟨rfl, _⟩ | ⟨rfl, hu, ps', h5⟩
   · simp at hge
   · simp at hge
   · rw [hu]
     exact ⟨rfl, ps', h5.cut⟩

theorem goodG_of {C : CatD} (h : checkB C = true) : goodG C.gen = true := by
 simp only [checkB, headB, Bool.and_eq_true, decide_eq_true_eq] at h
 rw [goodG_iff]
 exact ⟨h.1.1.1, h.1.1.2.1⟩

set_option maxHeartbeats 4000000 in
theorem commit_spec (K : List UInt8) (hk : K.length = 96) (C : CatD) (sa : Option Addr) (sn sc : Nat) (pa : Option Addr) (pn pc : Nat) (h : DiskIn w0 [] w gd ps m N) (hK : KTab w0) (hT : PTab w0) (hr : CatR w C sa sn sc pa pn pc) (ok : checkB C = true → CatOk C) (hb : B63 20 m) :
   Calls Tryz.prog 92 #[pV gd, .agg (bv K).toArray, .agg (catC C sa sn sc pa pn pc).toArray] w fun e w' => e = .returned (errV (commitM K C m).2) ∧ ∃ ps', DiskIn w0 [] w' gd ps' (commitM K C m).1 N := by
 obtain ⟨mI, hI⟩ := eI
 apply catalog_Commit_vc
 obtain ⟨g3, w1, r1, k1⟩ := (St.start w).box (P := Tryz.prog) 51 (pV gd)
 obtain ⟨g4, w2, r2, k2⟩ := k1.boxA (P := Tryz.prog) 41 (bv K)
 obtain ⟨g5, w3, r3, k3⟩ := k2.boxA (P := Tryz.prog) 47 (catC C sa sn sc pa pn pc)
 have k3 : St w [] w3 [.arr g3 51 [pV gd], .arr g4 41 (bv K), .arr g5 47 (catC C sa sn sc pa pn pc)] := k3
 refine ⟨g3, w1, r1, g4, w2, r2, g5, w3, r3, _, k3.ldA (i := 1) (l := bv K) rfl (kyA' _) (kyS' _) (by simp [hk]), _, k3.ldA (i := 2) (l := catC C sa sn sc pa pn pc) rfl (caA16 _) (caS16 _) rfl, (catEncode_spec K hk C sa sn sc pa pn pc w3 (hK.keep0 (h.chg.trans k3.chg)) (hr.keep0 k3.chg) ok).mono ?_⟩
 rintro e w4 ⟨ea, en, ec, rfl, f4⟩
 have k4 := f4.add k3
 obtain ⟨g7, w5, r5, k5⟩ := k4.zero (z := .slice none 0 0) (fun w => Tryz.zeroValue26 w)
 have k5 : St w [] w5 [.arr g3 51 [pV gd], .arr g4 41 (bv K), .arr g5 47 (catC C sa sn sc pa pn pc), .row 5 1 (.slice ea en ec) en (bv (if checkB C then encC K C else [])), .arr g7 26 [.slice none 0 0]] := k5
 obtain ⟨w6, r6, k6⟩ := k5.stL (i := 4) (o := 0) (off := 0) (T := 26) (v := .slice ea en ec) rfl (bsS _) rfl (by simp) rfl
 have h6 := h.addSt k6
 refine ⟨_, _, _, _, rfl, g7, w5, r5, w6, r6, _, neqS_nil hI _ _ _, fun hbad => ?_, fun hgood => ?_⟩
 · have hc : checkB C = false := by
     cases hc : checkB C with
     | false => rfl
     | true => rw [hc] at hbad; simp at hbad
   have e1 : commitM K C m = (m, some 28) := by unfold commitM; rw [hc]; rfl
   rw [e1, hc]
   exact ⟨rfl, ps, h6.cut⟩
 have hc : checkB C = true := by
   cases hc : checkB C with
   | true => rfl
   | false => rw [hc] at hgood; simp at hgood
 rw [hc] at h6
 obtain ⟨b, hbb⟩ : ∃ b, encC K C = b := ⟨_, rfl⟩
 obtain ⟨nm, hnm⟩ : ∃ nm, nameD 99 C.gen = nm := ⟨_, rfl⟩
 have e1 : commitM K C m = thenM (asideM tN m) (runC b nm 5) := by unfold commitM; rw [hc, hbb, hnm]; rfl
 obtain ⟨T1, hT1⟩ : ∃ T1 : List Res, [.arr g3 51 [pV gd], .arr g4 41 (bv K), .arr g5 47 (catC C sa sn sc pa pn pc), .row 5 1 (.slice ea en ec) en (bv b), .arr g7 26 [.slice ea en ec]] = T1 := ⟨_, rfl⟩
 have h6 : DiskIn w0 [] w6 gd ps m (N ++ T1) := by rw [← hT1, ← hbb]; exact h6
 have ld3 : ∀ {w' : World} {T}, St w0 [] w' (T1 ++ T) → (Instr.loadAt 51 (pV g3)).run Tryz.prog w' = .ok (pV gd) w' := fun h => ldQ (i := 0) h (by rw [← hT1]; rfl) (pdA _)
 have ld3' : ∀ {w' : World}, St w0 [] w' T1 → (Instr.loadAt 51 (pV g3)).run Tryz.prog w' = .ok (pV gd) w' := fun h => ld3 (T := []) (by rw [List.append_nil]; exact h)
 refine ⟨_, _, ld3' h6.top, (listD_spec h6).mono ?_⟩
 rintro e w7 ⟨la, lc, rfl, k7⟩
 have h7 := h6.addSt k7
 have hnl : (namesM m).length ≤ 4096 := by have := h.wf.okNow.len; simpa [namesM] using this
 refine ⟨_, _, _, rfl, (containsS_spec la _ lc (namesM m) tN w7 (h7.top.rd (i := 0) rfl) (by omega)).mono ?_⟩
 rintro e w8 ⟨rfl, rfl⟩
 have h7 := h7.cut
 refine ⟨_, rfl, fun w' => (asideM tN m).2 = none ∧ ∃ ps', DiskIn w0 [] w' gd ps' (asideM tN m).1 (N ++ T1), ⟨fun hin => ?_, fun hout => ?_⟩, ?_⟩
 · have hin : hasN m tN = true := hin
   have ea : asideM tN m = removeM m tN := by unfold asideM; rw [hin]; rfl
   refine ⟨_, _, ld3' h7.top, (remove_spec tN h7 hb.s hb.c).mono ?_⟩
   rintro e w9 ⟨rfl, h9⟩
   refine ⟨_, rfl, _, neqS_nil hI _ _ _, fun hbad => ?_, fun hok => ⟨by rw [ea]; simpa using hok, ps, by rw [ea]; exact h9⟩⟩
   obtain ⟨y, hy⟩ := Option.isSome_iff_exists.1 hbad
   have e2 : commitM K C m = ((removeM m tN).1, some y) := by rw [e1, thenM, ea, hy]
   rw [e2, hy]
   exact ⟨rfl, ps, h9.cut⟩
 · have hout : hasN m tN = false := hout
   have ea : asideM tN m = (m, none) := by unfold asideM; rw [hout]; rfl
   exact ⟨by rw [ea], ps, by rw [ea]; exact h7⟩
 rintro w10 ⟨ha, ps1, h10⟩
 obtain ⟨m1, hm1⟩ : ∃ m1, (asideM tN m).1 = m1 := ⟨_, rfl⟩
 have hb1 : B63 19 m1 := by rw [← hm1]; exact hb.of (j := 1) (aside_cnt tN m)
 rw [hm1] at h10
 have e2 : commitM K C m = runC b nm 5 m1 := by rw [e1, thenM, ha, hm1]
 have hgg := goodG_of hc
 have hgr := goodG_iff.1 hgg
 have hname := catname_spec C.gen (by omega) w10 (hT.keep0 h10.chg)
 rw [hgg, if_pos rfl, hnm] at hname
 refine ⟨_, h10.top.ldL (i := 2) (o := 0) (l := catC C sa sn sc pa pn pc) (by rw [← hT1]; rfl) (intA _) rfl rfl, hname.mono ?_⟩
 rintro e w11 ⟨rfl, c11⟩
 obtain ⟨g10, w12, r12, k12⟩ := (St.start w11).zero (P := Tryz.prog) (T := 9) (z := .string ByteArray.empty) (fun w => Tryz.zeroValue9 w)
 have k12 : St w11 [] w12 [.arr g10 9 [.string ByteArray.empty]] := k12
 obtain ⟨w13, r13, k13⟩ := k12.stL (i := 0) (o := 0) (off := 0) (T := 9) (v := strV nm) rfl (stS' _) rfl (by simp) rfl
 have h13 := (h10.same c11).addSt k13
 obtain ⟨T2, hT2⟩ : ∃ T2, T1 ++ [.arr g10 9 [strV nm]] = T2 := ⟨_, rfl⟩
 have h13 : DiskIn w0 [] w13 gd ps1 m1 (N ++ T2) := by rw [← hT2, ← List.append_assoc]; exact h13
 have ldP : ∀ {w' : World}, St w0 [] w' T2 → (Instr.loadAt 51 (pV g3)).run Tryz.prog w' = .ok (pV gd) w' := fun h => by rw [← hT2] at h; exact ld3 h
 have ldN : ∀ {w' : World}, St w0 [] w' T2 → (Instr.loadAt 9 (pV g10)).run Tryz.prog w' = .ok (strV nm) w' := fun h => ldQ (i := 5) h (by rw [← hT2, ← hT1]; rfl) (stA' _)
 have key : ∀ (i : Nat) (_ : i < 5) {w' : World} {ps' : List Nat} {m' : DiskM}, DiskIn w0 [] w' gd ps' m' (N ++ T2) → B63 5 m' → ∃ v, (Instr.index 279 (.agg #[clsV 186 [] [pV g3], clsV 187 [] [pV g3, pV g7], clsV 188 [] [pV g3], clsV 84 [pV gd] [], clsV 189 [] [pV g3, pV g10]]) (.int .i64 (i : Int))).run Tryz.prog w' = .ok v w' ∧
     ∃ (f : Nat) (pre cb : List Value), v = .func (.func f) ⟨pre⟩ ⟨cb⟩ ∧ goesIn Tryz.prog f = true ∧ Calls Tryz.prog f (pre ++ ([] : List Value) ++ cb).toArray w' fun e w'' => e = .returned (errV (stepC b nm i m').2) ∧ ∃ ps'', DiskIn w0 [] w'' gd ps'' (stepC b nm i m').1 (N ++ T2) := fun i hi {w' ps' m'} hd hbm => by
   obtain ⟨i0, i1, i2, i3, i4⟩ := fn5_ix (clsV 186 [] [pV g3]) (clsV 187 [] [pV g3, pV g7]) (clsV 188 [] [pV g3]) (clsV 84 [pV gd] []) (clsV 189 [] [pV g3, pV g10]) w'
   have hcase : i = 0 ∨ i = 1 ∨ i = 2 ∨ i = 3 ∨ i = 4 := by omega
   rcases hcase with rfl | rfl | rfl | rfl | rfl
   · refine ⟨_, i0, 186, [], [pV g3], rfl, by kernel_rfl, ?_⟩
     show Calls _ _ #[pV g3] _ _
     apply catalog_Commit_1_vc
     refine ⟨_, _, ldP hd.top, (create_spec tN hd hbm.s hbm.c).mono ?_⟩
     rintro e w'' ⟨rfl, ps'', hd2⟩
     exact ⟨_, rfl, rfl, ps'', hd2⟩
   · refine ⟨_, i1, 187, [], [pV g3, pV g7], rfl, by kernel_rfl, ?_⟩
     show Calls _ _ #[pV g3, pV g7] _ _
     apply catalog_Commit_2_vc
     obtain ⟨gl, w2', r2', k2'⟩ := (St.start w').lit bbT [.slice ea en ec] (by simp [Value.oneCell']) (by simp)
     refine ⟨_, _, ldP hd.top, _, _, _, ldQ (i := 4) hd.top (by rw [← hT2, ← hT1]; rfl) (bsA _), _, _, _, w2', r2', (append_spec tN _ 1 1 [.slice ea en ec] [b] (hd.addSt k2') (fun {w3 ps3 m3} h3 => ⟨h3.top.rd (i := 0) rfl, row2_one (DiskIn.top (h3.cut) |>.rd (i := 3) (by rw [← hT2, ← hT1]; rfl))⟩) hbm.s (by decide)).mono ?_⟩
     rintro e w'' ⟨rfl, hd2⟩
     exact ⟨_, rfl, rfl, _, hd2.cut⟩
   · refine ⟨_, i2, 188, [], [pV g3], rfl, by kernel_rfl, ?_⟩
     show Calls _ _ #[pV g3] _ _
     apply catalog_Commit_3_vc
     refine ⟨_, _, ldP hd.top, (sync_spec tN hd hbm.s).mono ?_⟩
     rintro e w'' ⟨rfl, hd2⟩
     exact ⟨_, rfl, rfl, _, hd2⟩
   · refine ⟨_, i3, 84, [pV gd], [], rfl, by kernel_rfl, ?_⟩
     show Calls _ _ #[pV gd] _ _
     refine (syncDir_spec hd hbm.s).mono ?_
     rintro e w'' ⟨rfl, hd2⟩
     exact ⟨rfl, _, hd2⟩
   · refine ⟨_, i4, 189, [], [pV g3, pV g10], rfl, by kernel_rfl, ?_⟩
     show Calls _ _ #[pV g3, pV g10] _ _
     apply catalog_Commit_4_vc
     refine ⟨_, _, ldP hd.top, _, ldN hd.top, (rename_spec tN nm hd hbm.s hbm.c).mono ?_⟩
     rintro e w'' ⟨rfl, hd2⟩
     exact ⟨_, rfl, rfl, _, hd2⟩
 refine ⟨_, rfl, g10, w12, r12, w13, r13, clsV 186 [] [pV g3], w13, rfl, clsV 187 [] [pV g3, pV g7], w13, rfl, clsV 188 [] [pV g3], w13, rfl, _, _, ldP h13.top, clsV 84 [pV gd] [], w13, rfl, clsV 189 [] [pV g3, pV g10], w13, rfl, _, fn5_build g3 g7 gd g10 w13, fun x w' => ∃ k : Nat, k ≤ 5 ∧ x = ((5 - k : Nat) : Int) ∧ ∃ ps' m', DiskIn w0 [] w' gd ps' m' (N ++ T2) ∧ runC b nm 5 m1 = runC b nm k m' ∧ Cnt (5 - k) m1 m', fun x _ => (5 - x).toNat, ⟨5, by omega, rfl, ps1, m1, h13, rfl, Cnt.refl _⟩, ?_⟩
 rintro x w19 ⟨k, hk5, rfl, ps2, m2, h19, hrun, hcnt⟩
 have hb2 : B63 14 m2 := (show B63 (5 - k + 14) m1 from ⟨by have := hb1.1; omega, by have := hb1.2; omega⟩).of hcnt
 refine ⟨fun hlt => ?_, fun hge => ?_⟩
 · obtain ⟨j, rfl⟩ : ∃ j, k = j + 1 := ⟨k - 1, by simp at hlt; omega⟩
   obtain ⟨v, hv, f, pre, cb, hfv, hgi, hcall⟩ := key (5 - (j + 1)) (by omega) h19 (⟨by have := hb2.1; omega, by have := hb2.2; omega⟩)
   refine ⟨v, hv, f, pre, cb, hfv, hgi, hcall.mono ?_⟩
   rintro e w20 ⟨rfl, ps3, h20⟩
   have ej : 5 - (j + 1) = 4 - j := by omega
   rw [ej] at h20
   have hstep : runC b nm 5 m1 = thenM (stepC b nm (4 - j) m2) (runC b nm j) := by rw [hrun, runC]
   refine ⟨_, rfl, _, neqS_nil hI _ _ _, fun hbad => ?_, fun hok => ?_⟩
   · rw [ej] at hbad ⊢
     obtain ⟨y, hy⟩ := Option.isSome_iff_exists.1 hbad
     have e3 : commitM K C m = ((stepC b nm (4 - j) m2).1, some y) := by rw [e2, hstep, thenM, hy]
     rw [e3, hy]
     exact ⟨rfl, ps3, h20.cut⟩
   · rw [ej] at hok
     have hok : (stepC b nm (4 - j) m2).2 = none := by simpa using hok
     refine ⟨⟨j, by omega, ?_, ps3, _, h20, by rw [hstep, thenM, hok], ?_⟩, ?_⟩
     · rw [wrap_i64 (n := ((5 - (j + 1) : Nat) : Int) + 1) (by omega) (by omega)]; omega
     · exact (hcnt.trans (stepC_cnt b nm (4 - j) m2)).mono (by omega)
     · show (5 - IntKind.wrap .i64 (((5 - (j + 1) : Nat) : Int) + 1)).toNat < (5 - ((5 - (j + 1) : Nat) : Int)).toNat
       rw [wrap_i64 (n := ((5 - (j + 1) : Nat) : Int) + 1) (by omega) (by omega)]; omega
 · obtain rfl : k = 0 := by simp at hge; omega
   have e3 : commitM K C m = endM nm m2 := by rw [e2, hrun, runC]
   refine ⟨_, _, ldP h19.top, (syncDir_spec h19 hb2.s).mono ?_⟩
   rintro e w21 ⟨rfl, h21⟩
   obtain ⟨m3, hm3⟩ : ∃ m3, (syncDirM m2).1 = m3 := ⟨_, rfl⟩
   have hb3 : B63 13 m3 := by rw [← hm3]; exact hb2.of (j := 1) (syncDir_cnt m2)
   rw [hm3] at h21
   obtain ⟨o, ho⟩ : ∃ o, (syncDirM m2).2 = o := ⟨_, rfl⟩
   have e4 : commitM K C m = (match (syncDirM m2).2 with
     | none => (m3, none)
     | some e => if e = 1 then (m3, some 1) else undoM nm e m3) := by
     rw [e3, endM, hm3]
     all_goals (cases (syncDirM m2).2 <;> rfl)
   rw [ho] at e4 ⊢
   refine ⟨_, rfl, fun t w' => t = (decide (o = none) || decide (o = some 1)) ∧ w' = w21, ⟨_, eqlS_nil hI _ _ _, fun hn => ⟨?_, rfl⟩, fun hn => (errIs_spec o 1 w21).mono ?_⟩, ?_⟩
   · have : o = none := by simpa using hn
     simp [this]
   · rintro e w22 ⟨rfl, rfl⟩
     have : ¬ o = none := by rintro rfl; simp at hn
     exact ⟨_, rfl, by simp [this], rfl⟩
   rintro t w23 ⟨rfl, rfl⟩
   refine ⟨fun hyes => ?_, fun hno => ?_⟩
   · have hz : (o = none ∨ o = some 1) := by simpa using hyes
     rcases hz with rfl | rfl
     · rw [e4]; exact ⟨rfl, ps2, h21.cut⟩
     · rw [e4]; exact ⟨rfl, ps2, h21.cut⟩
   · have hz : ¬ o = none ∧ ¬ o = some 1 := by simpa using hno
     obtain ⟨y, rfl⟩ : ∃ y, o = some y := by
       cases o with
       | none => exact absurd rfl hz.1
       | some y => exact ⟨y, rfl⟩
     have hy1 : ¬ y = 1 := fun e => hz.2 (by rw [e])
     have e5 : commitM K C m = undoM nm y m3 := by rw [e4]; simp only [hy1, if_false]
     refine ⟨_, _, ldP h21.top, _, ldN h21.top, (undo_spec nm y h21 ⟨by have := hb3.1; omega, by have := hb3.2; omega⟩).mono ?_⟩
     rintro e w24 ⟨rfl, ps4, h24⟩
     rw [e5]
     exact ⟨_, rfl, rfl, ps4, h24.cut⟩
end

end Go.Proofs.YtpmhjnhgpplmnaaGreatDoor
end

section
namespace Go.Proofs.YtpmhjnhgpplmnaaGreatDoor
open Go Sx
set_option maxRecDepth 8000

def genO (n : Nm) : Option Int := numO 99 1 1099511627776 n
def bestS (G : Nm → CatD) (b : CatD) (n : Nm) : CatD := match genO n with
 | some g => if b.gen < g then G n else b
 | none => b
def bestC (G : Nm → CatD) (ns : List Nm) : CatD := ns.foldl (bestS G) cat0
def anyG (ns : List Nm) : Bool := ns.any fun n => (genO n).isSome
def CatsOk (K : List UInt8) (G : Nm → CatD) (m : DiskM) : Prop := ∀ n ∈ namesM m, ∀ g, genO n = some g → readF m n = encC K (G n) ∧ checkB (G n) = true ∧ CatOk (G n) ∧ (G n).gen = g

theorem found_mem {m : DiskM} (hw : WFD m) (hd : m.down = false) {n : Nm} (hn : n ∈ namesM m) : foundE m n = none := by
 obtain ⟨e, he, rfl⟩ := List.mem_map.1 hn
 have hg := (hw.okNow.ent e he).2
 unfold foundE
 rw [hd, hg]
 have hf : findD m.now e.name = some e := (findA_iff hw.okNow.asc).2 he
 rw [hf]
 simp
theorem name_len {m : DiskM} (hw : WFD m) {n : Nm} (hn : n ∈ namesM m) : n.length ≤ 64 := by
 obtain ⟨e, he, rfl⟩ := List.mem_map.1 hn
 have hg := (hw.okNow.ent e he).2
 simp only [goodN, Bool.and_eq_true, decide_eq_true_eq] at hg
 exact hg.1.2
theorem genO_pos {n : Nm} {g : Int} (h : genO n = some g) : 1 ≤ g ∧ g ≤ 1099511627776 := by
 have := (numO_iff (by omega) (by omega)).1 h
 exact ⟨this.1, this.2.1⟩
theorem best_gen {K : List UInt8} {G : Nm → CatD} {m : DiskM} (hG : CatsOk K G m) (i : Nat) : (anyG ((namesM m).take i) = false ∧ bestC G ((namesM m).take i) = cat0) ∨ (anyG ((namesM m).take i) = true ∧ 1 ≤ (bestC G ((namesM m).take i)).gen) := by
 induction i with
 | zero => exact .inl ⟨rfl, rfl⟩
 | succ i ih =>
   rw [List.take_add_one]
   cases hn : (namesM m)[i]? with
   | none => simpa using ih
   | some n =>
     have e1 : bestC G ((namesM m).take i ++ (some n).toList) = bestS G (bestC G ((namesM m).take i)) n := by simp [bestC]
     have e2 : anyG ((namesM m).take i ++ (some n).toList) = (anyG ((namesM m).take i) || (genO n).isSome) := by simp [anyG]
     rw [e1, e2]
     unfold bestS
     cases hg : genO n with
     | none => simpa using ih
     | some g =>
       have hgp := genO_pos hg
       obtain ⟨_, _, _, hgg⟩ := hG n (List.mem_of_getElem? hn) g hg
       right
       refine ⟨by simp, ?_⟩
       simp only
       by_cases hlt : (bestC G ((namesM m).take i)).gen < g
       · rw [if_pos hlt]; omega
       · rw [if_neg hlt]
         rcases ih with ⟨_, h⟩ | ⟨_, h⟩
         · rw [h] at hlt
           exact absurd (show cat0.gen < g by show (0 : Int) < g; omega) hlt
         · exact h

set_option maxHeartbeats 4000000 in
theorem load_spec {w0 w : World} {N : List Res} {gd : Nat} {ps : List Nat} {m : DiskM} (K : List UInt8) (hk : K.length = 96) (G : Nm → CatD) (hG : CatsOk K G m) (h : DiskIn w0 [] w gd ps m N) (hd : m.down = false) (hK : KTab w0) (hT : PTab w0) (hE : EVar w0) :
   Calls Tryz.prog 91 #[pV gd, .agg (bv K).toArray] w fun e w' => ∃ sa sc pa pc, e = .returned (.tuple #[.agg (catC (bestC G (namesM m)) sa (bestC G (namesM m)).snaps.length sc pa (bestC G (namesM m)).packs.length pc).toArray, errV (if anyG (namesM m) then none else some 21)]) ∧
     St w [] w' [.row 89 36 (.slice sa (bestC G (namesM m)).snaps.length sc) (bestC G (namesM m)).snaps.length ((bestC G (namesM m)).snaps.flatMap snapC), .row 91 3 (.slice pa (bestC G (namesM m)).packs.length pc) (bestC G (namesM m)).packs.length ((bestC G (namesM m)).packs.flatMap pkC)] := by
 obtain ⟨mI, hI⟩ := eI
 have hw := h.wf
 apply catalog_Load_vc
 obtain ⟨g3, w1, r1, k1⟩ := (St.start w).boxA (P := Tryz.prog) 41 (bv K)
 obtain ⟨g4, w2, r2, k2⟩ := k1.zeroA caZ16
 refine ⟨g3, w1, r1, g4, w2, r2, (down_spec (h.same k2.chg)).mono ?_⟩
 rintro e w3 ⟨rfl, rfl⟩
 rw [hd]
 obtain ⟨g6, w5, r5, k5⟩ := k2.zeroA caZ16
 obtain ⟨w6, r6, k6⟩ := k5.stA (i := 2) (v := catZ) rfl (caS16 _) rfl rfl (catC_one cat0 none 0 0 none 0 0)
 refine ⟨_, rfl, fun h => by simp at h, fun _ => ⟨_, cat_build0 w3, g6, w5, r5, w6, r6, (listD_spec (h.same k6.chg)).mono ?_⟩⟩
 rintro e w7 ⟨la, lc, rfl, kl⟩
 have hnl : (namesM m).length ≤ 4096 := by have := hw.okNow.len; simpa [namesM] using this
 obtain ⟨nl, hnn⟩ : ∃ nl, (namesM m).length = nl := ⟨_, rfl⟩
 rw [hnn] at hnl kl ⊢
 have k7 := Sx.St.callPart (N := []) (by rw [List.append_nil]; exact k6) kl
 let B (i : Nat) : CatD := bestC G ((namesM m).take i)
 let T (b : CatD) (sa : Option Addr) (sc : Nat) (pa : Option Addr) (pc : Nat) : List Res := [.arr g3 41 (bv K), .arr g4 47 catZ, .arr g6 47 (catC b sa b.snaps.length sc pa b.packs.length pc), .row 9 1 (.slice la nl lc) nl ((namesM m).map strV), .row 89 36 (.slice sa b.snaps.length sc) b.snaps.length (b.snaps.flatMap snapC), .row 91 3 (.slice pa b.packs.length pc) b.packs.length (b.packs.flatMap pkC)]
 have t7 : St w [] w7 (T cat0 none 0 none 0) := (k7.addNil 89 36).addNil 91 3
 refine ⟨la, nl, lc, rfl, fun y x w' => ∃ i : Nat, x = (i : Int) ∧ i ≤ nl ∧ y = (if anyG ((namesM m).take i) then 10 else 21) ∧ ∃ sa sc pa pc, St w [] w' (T (B i) sa sc pa pc), fun _ x _ => nl - x.toNat, ⟨0, rfl, by omega, rfl, none, 0, none, 0, t7⟩, ?_⟩
 rintro y x w8 ⟨i, rfl, hi, hy, sa, sc, pa, pc, k8⟩
 refine ⟨fun hlt => ?_, fun hge => ?_⟩
 · have hi' : i < nl := by simp at hlt; omega
   obtain ⟨n, hn⟩ : ∃ n, (namesM m)[i]? = some n := ⟨_, List.getElem?_eq_getElem (by omega)⟩
   have hmem := List.mem_of_getElem? hn
   obtain ⟨b, o, ha, hcell⟩ := (k8.rd (i := 3) rfl).cells.at_ (i := i) (v := strV n) (by rw [List.getElem?_map, hn]; rfl)
   have hlen := name_len hw hmem
   have eB : B (i + 1) = bestS G (B i) n := by show bestC G _ = _; rw [List.take_add_one, hn]; simp [bestC, B]
   have eA : anyG ((namesM m).take (i + 1)) = (anyG ((namesM m).take i) || (genO n).isSome) := by rw [List.take_add_one, hn]; simp [anyG]
   refine ⟨b, o, ha, by omega, by omega, _, by rw [Int.toNat_natCast, Nat.mul_one]; exact ld1 (stA' _) hcell, (catgen_spec n (by omega) w8 (hT.keep0 (h.chg.trans k8.chg)) (hE.keep0 (h.chg.trans k8.chg))).mono ?_⟩
   rintro e w9 ⟨rfl, c9⟩
   have k9 := k8.same c9
   cases hg : genO n with
   | none =>
     have hg' : numO 99 1 1099511627776 n = none := hg
     rw [hg'] 
     refine ⟨_, _, rfl, fun _ => ⟨⟨i + 1, wrap_succ hi' (by omega), by omega, ?_, sa, sc, pa, pc, ?_⟩, mu_succ hi' (by omega)⟩, fun h => by simp at h⟩
     · rw [eA, hg]; simpa using hy
     · have : B (i + 1) = B i := by rw [eB, bestS, hg]
       rw [this]; exact k9
   | some g =>
     have hg' : numO 99 1 1099511627776 n = some g := hg
     obtain ⟨hrd, hck, hok, hgen⟩ := hG n hmem g hg
     have hf := found_mem hw hd hmem
     rw [hg']
     refine ⟨_, _, rfl, fun h => by simp at h, fun _ => ⟨fun z w' => z = 10 ∧ w' = w9, ⟨fun _ => ⟨rfl, rfl⟩, fun h => ⟨?_, rfl⟩⟩, ?_⟩⟩
     · rw [hy] at h ⊢
       split at h
       · rename_i hh; rw [if_pos hh]
       · simp at h
     rintro z w10 ⟨rfl, rfl⟩
     refine (read_spec n (h.same k9.chg)).mono ?_
     rintro e w11 ⟨ra, rn, rc, rfl, f11⟩
     have k11 := k9.same f11.1
     have hrd11 : RdB w11 ra rn rc (encC K (G n)) := by rw [← hrd]; exact f11.rdB
     rw [hf]
     refine ⟨_, _, _, _, rfl, _, neqS_nil hI none _ _, fun h => by simp at h, fun _ => ⟨_, k11.ldA (i := 0) (l := bv K) rfl (kyA' _) (kyS' _) (by simp [hk]), (catDecode_spec K hk (G n) hok hck ra rn rc w11 (hK.keep0 (h.chg.trans k11.chg)) hrd11).mono ?_⟩⟩
     rintro e w13 ⟨sa2, sc2, pa2, pc2, rfl, kd⟩
     have k13 := Sx.St.callPart (N := []) (by rw [List.append_nil]; exact k11) kd
     obtain ⟨g14, w14, r14, k14⟩ := k13.zeroA caZ16
     obtain ⟨w15, r15, k15⟩ := k14.stA (i := 8) (v := catC (G n) sa2 (G n).snaps.length sc2 pa2 (G n).packs.length pc2) rfl (caS16 _) rfl rfl (catC_one _ _ _ _ _ _ _)
     have k15 : St w [] w15 (T (B i) sa sc pa pc ++ [.row 89 36 (.slice sa2 (G n).snaps.length sc2) (G n).snaps.length ((G n).snaps.flatMap snapC), .row 91 3 (.slice pa2 (G n).packs.length pc2) (G n).packs.length ((G n).packs.flatMap pkC), .arr g14 47 (catC (G n) sa2 (G n).snaps.length sc2 pa2 (G n).packs.length pc2)]) := k15
     refine ⟨_, _, rfl, g14, w14, r14, w15, r15, fun t w' => t = decide ((B i).gen < g) ∧ w' = w15, ⟨_, eqlS_nil hI none _ _, fun _ => ⟨_, k15.ldL (i := 8) (o := 0) rfl (intA _) rfl rfl, fun _ => ⟨_, k15.ldL (i := 2) (o := 0) rfl (intA _) rfl rfl, ?_, rfl⟩, fun h => ?_⟩, fun h => by simp at h⟩, ?_⟩
     · simp [GT.gt]
     · rw [hgen] at h; simp at h
     rintro t w16 ⟨rfl, rfl⟩
     have fin : ∀ {w' : World} sa sc pa pc, St w [] w' (T (B (i + 1)) sa sc pa pc) → (∃ j : Nat, IntKind.wrap .i64 ((i : Int) + 1) = (j : Int) ∧ j ≤ nl ∧ (10 : Int) = (if anyG ((namesM m).take j) then 10 else 21) ∧ ∃ sa sc pa pc, St w [] w' (T (B j) sa sc pa pc)) := fun sa sc pa pc hS => ⟨i + 1, wrap_succ hi' (by omega), by omega, by rw [eA, hg]; simp, sa, sc, pa, pc, hS⟩
     refine ⟨fun w' => ∃ sa sc pa pc, St w [] w' (T (B (i + 1)) sa sc pa pc), ⟨fun hb => ?_, fun hb => ?_⟩, ?_⟩
     · have hb : (B i).gen < g := by simpa using hb
       have e1 : B (i + 1) = G n := by rw [eB, bestS, hg]; simp only; rw [if_pos hb]
       obtain ⟨w17, r17, k17⟩ := k15.stA (i := 2) (v := catC (G n) sa2 (G n).snaps.length sc2 pa2 (G n).packs.length pc2) rfl (caS16 _) rfl rfl (catC_one _ _ _ _ _ _ _)
       refine ⟨_, k15.ldA (i := 8) (l := catC (G n) sa2 (G n).snaps.length sc2 pa2 (G n).packs.length pc2) rfl (caA16 _) (caS16 _) rfl, w17, r17, sa2, sc2, pa2, pc2, ?_⟩
       rw [e1]
       refine Sx.St.sub k17 ?_
       exact .cons_cons _ (.cons_cons _ (.cons_cons _ (.cons_cons _ (.cons _ (.cons _ (.cons_cons _ (.cons_cons _ (.cons _ .slnil))))))))
     · have hb : ¬ (B i).gen < g := by simpa using hb
       have e1 : B (i + 1) = B i := by rw [eB, bestS, hg]; simp only; rw [if_neg hb]
       exact ⟨sa, sc, pa, pc, by rw [e1]; exact k15.sub (List.sublist_append_left _ _)⟩
     rintro w18 ⟨sa3, sc3, pa3, pc3, k18⟩
     exact ⟨fin sa3 sc3 pa3 pc3 k18, mu_succ hi' (by omega)⟩
 · have hi' : i = nl := by simp at hge; omega
   have eB : B i = bestC G (namesM m) := by show bestC G _ = _; rw [hi', ← hnn, List.take_length]
   have eT : (namesM m).take i = namesM m := by rw [hi', ← hnn, List.take_length]
   rw [eB] at k8
   rw [eT] at hy
   have hbg := best_gen hG i
   rw [eT] at hbg
   obtain ⟨w19, r19, k19⟩ := k8.stA (i := 1) (v := catC (bestC G (namesM m)) sa (bestC G (namesM m)).snaps.length sc pa (bestC G (namesM m)).packs.length pc) rfl (caS16 _) rfl rfl (catC_one _ _ _ _ _ _ _)
   have k19 : St w [] w19 ([_, .arr g4 47 (catC (bestC G (namesM m)) sa (bestC G (namesM m)).snaps.length sc pa (bestC G (namesM m)).packs.length pc), _, _] ++ [_, _]) := k19
   refine ⟨_, k8.ldL (i := 2) (o := 0) rfl (intA _) rfl rfl, fun h0 => ?_, fun h0 => ?_⟩
   · refine ⟨_, k8.ldA (i := 2) (l := catC (bestC G (namesM m)) sa (bestC G (namesM m)).snaps.length sc pa (bestC G (namesM m)).packs.length pc) rfl (caA16 _) (caS16 _) rfl, w19, r19, _, k19.ldVarA (i := 1) rfl (caA16 _) (caS16 _) rfl, sa, sc, pa, pc, ?_, k19.sub (List.sublist_append_right _ _)⟩
     have h0 : (bestC G (namesM m)).gen = 0 := by simpa using h0
     have hn : anyG (namesM m) = false := by
       rcases hbg with ⟨h, _⟩ | ⟨_, h⟩
       · exact h
       · omega
     rw [hy, hn]; rfl
   · refine ⟨_, k8.ldA (i := 2) (l := catC (bestC G (namesM m)) sa (bestC G (namesM m)).snaps.length sc pa (bestC G (namesM m)).packs.length pc) rfl (caA16 _) (caS16 _) rfl, w19, r19, _, k19.ldVarA (i := 1) rfl (caA16 _) (caS16 _) rfl, sa, sc, pa, pc, ?_, k19.sub (List.sublist_append_right _ _)⟩
     have h0 : ¬ (bestC G (namesM m)).gen = 0 := by simpa using h0
     have hn : anyG (namesM m) = true := by
       rcases hbg with ⟨_, h⟩ | ⟨h, _⟩
       · rw [h] at h0; exact absurd rfl h0
       · exact h
     rw [hn]; rfl

end Go.Proofs.YtpmhjnhgpplmnaaGreatDoor
end

section
namespace Go.Proofs.YtpmhjnhgpplmnaaGreatDoor
open Go Go.Proofs.YtpmhjnhgpplmnaaGreatDoor.Sx

set_option maxRecDepth 100000
theorem amphoralaw16_plain_vc (a0 : Int) (w : World) (R : Ending → World → Prop) (h : ∃ g2 w1, AlQ 47 g2 w w1 ∧ (∃ t4, (Instr.build 44 #[(0, (.int .u64 283)), (1, (.int .i64 1)), (2, (.int .i64 1)), (3, (.int .i64 4)), (4, (.int .i64 8))]).run Tryz.prog w1 = .ok (.agg t4) w1 ∧ (∃ t5, (Instr.build 47 #[(0, (.int .i64 a0)), (2, (.agg t4))]).run Tryz.prog w1 = .ok (.agg t5) w1 ∧ (∃ w2, StQ 47 g2 0 (.agg t5) w1 w2 ∧ (∃ r2, (loadVar 47 ⟨g2, 0, none⟩).run Tryz.prog w2 = .ok r2 w2 ∧ (R (.returned r2) w2)))))) : Calls Tryz.prog 93 #[(.int .i64 a0)] w R := calls_of_ev2 (tc := .sq [.reg (.op .bx .nil), .reg (.op .p (.op (.ld .agg) (.op (.ld .agg) (.op .u .nil))))] .leaf) Tryz.func93 (by kernel_rfl) (by kernel_rfl) h

theorem amphoralaw16_alive_vc  (w : World) (R : Ending → World → Prop) (h : ∃ t8, (Instr.build 39 #[(0, (.int .u8 1))]).run Tryz.prog w = .ok (.agg t8) w ∧ (Calls Tryz.prog 33 #[(.agg t8)] w fun e9 w1 => ∃ t9, e9 = .returned (.agg t9) ∧ (∃ g1 w2, AlQ 41 g1 w1 w2 ∧ (∃ w3, StQ 41 g1 0 (.agg t9) w2 w3 ∧ (Calls Tryz.prog 55 #[(.int .i64 1000)] w3 fun e11 w4 => ∃ t11_0 t11_1, e11 = .returned (.tuple #[t11_0, t11_1]) ∧ (∃ J : Bool → World → Prop, (∃ t15, (eqlS .neq 58 (.tmp 14) (.const .nilIface) t11_1 .nilIface).run Tryz.prog w4 = .ok (.bool t15) w4 ∧ ((t15 = true → (J true w4)) ∧ (t15 = false → (∃ t18, (eqlS .eql 51 (.tmp 17) (.const (.pointer none)) t11_0 (.pointer none)).run Tryz.prog w4 = .ok (.bool t18) w4 ∧ (J t18 w4))))) ∧ (∀ x19, ∀ w5, J x19 w5 → ((x19 = true → (R (.returned (.bool false)) w5)) ∧ (x19 = false → (∃ t22, LdQ 41 g1 0 (.agg t22) w5 ∧ (Calls Tryz.prog 91 #[t11_0, (.agg t22)] w5 fun e23 w6 => ∃ t23_0 t23_1, e23 = .returned (.tuple #[(.agg t23_0), t23_1]) ∧ (∃ g4 w7, AlQ 47 g4 w6 w7 ∧ (∃ w8, StQ 47 g4 0 (.agg t23_0) w7 w8 ∧ (∃ S : World → Prop, S w8.drew ∧ (∃ t27, (∀ w', S w' → LdQ 41 g1 0 (.agg t27) w') ∧ (Calls Tryz.prog 93 #[(.int .i64 1)] w8.drew fun e28 w9 => ∃ t28, e28 = .returned (.agg t28) ∧ (∃ S_1 : World → Prop, (∀ w', S_1 w' → S w') ∧ S_1 w9 ∧ (Calls Tryz.prog 92 #[t11_0, (.agg t27), (.agg t28)] w9 fun e29 w10 => ∃ t29, e29 = .returned t29 ∧ (∃ S_2 : World → Prop, (∀ w', S_2 w' → S_1 w') ∧ S_2 w10 ∧ (∃ t32, LdQ 41 g1 0 (.agg t32) w10 ∧ (Calls Tryz.prog 91 #[t11_0, (.agg t32)] w10 fun e33 w11 => ∃ t33_0 t33_1, e33 = .returned (.tuple #[(.agg t33_0), t33_1]) ∧ (∃ g6 w12, AlQ 47 g6 w11 w12 ∧ (∃ w13, StQ 47 g6 0 (.agg t33_0) w12 w13 ∧ (∃ t37, (eqlS .eql 58 (.tmp 36) (.const .nilIface) t29 .nilIface).run Tryz.prog w13 = .ok (.bool t37) w13 ∧ ((t37 = true → (∃ t41, (eqlS .eql 58 (.tmp 39) (.tmp 40) t23_1 (.iface 65 (.int .i64 21))).run Tryz.prog w13 = .ok (.bool t41) w13 ∧ ((t41 = true → (∃ t45, (eqlS .eql 58 (.tmp 44) (.const .nilIface) t33_1 .nilIface).run Tryz.prog w13 = .ok (.bool t45) w13 ∧ ((t45 = true → (∃ t49, LdQ 3 g6 0 (.int .i64 t49) w13 ∧ (((t49 == (1 : Int)) = true → (Calls Tryz.prog 61 #[t11_0] w13 fun e54 w14 => ∃ t54, e54 = .returned (.int .i64 t54) ∧ (((t54 == (6 : Int)) = true → (Calls Tryz.prog 80 #[t11_0] w14 fun e59 w15 => ∃ t59a t59n t59c, e59 = .returned (.slice t59a t59n t59c) ∧ (R (.returned (.bool ((t59n : Int) == (1 : Int)))) w15))) ∧ ((t54 == (6 : Int)) = false → (R (.returned (.bool false)) w14))))) ∧ ((t49 == (1 : Int)) = false → (R (.returned (.bool false)) w13))))) ∧ (t45 = false → (R (.returned (.bool false)) w13))))) ∧ (t41 = false → (R (.returned (.bool false)) w13))))) ∧ (t37 = false → (R (.returned (.bool false)) w13))))))))))))))))))))))))))) : Calls Tryz.prog 25 #[] w R := calls_of_ev2 (tc := .sq [.rg 1, .reg (.op (.ld .agg) (.op (.cl [.agg]) (.op .bx (.op .u .nil)))), .reg (.op (.cl [.val, .val]) (.pp 5 .nil)), .seq (.join (lr [(14, 6)]) [19] [.bool] (.reg (.op .p (.op (.ld .bool) (.op .p (.sp 16 (.pp 3 .nil) (.op .p (.op (.ld .bool) (.op .p .nil))))))))) (.cond (.seq (.rg 1) .leaf) .leaf), .reg (.op .p (.op (.ld .agg) (.op (.cl [.agg, .val]) (.pp 3 (.op .bx (.op .u (.op .p .nil))))))), .drawS (.tk 0 .p (.ts 1 .agg (.go 2 (.cl [.agg]) (.go 3 (.cl [.val]) (.tk 4 .p .nil))))) [], .reg (.op .p (.op (.ld .agg) (.op (.cl [.agg, .val]) (.pp 3 (.op .bx (.op .u (.op .p .nil))))))), .reg (.op .p (.op (.ld .bool) (.op .p (.sp 38 (.pp 2 (.op (.ld .bool) (.pp 2 (.sp 43 (.op .p (.op (.ld .bool) (.pp 2 (.sp 47 (.op .p (.op (.ld (.int .i64)) (.pp 3 (.sp 52 (.op .p (.op (.cl [.int .i64]) (.pp 3 (.sp 57 (.op .p (.op (.cl [.slice]) (.pp 4 .nil))) (.pp 6 .nil))))) (.pp 11 .nil))))) (.pp 16 .nil))))) (.pp 20 .nil))))) (.pp 25 .nil)))))] .leaf) Tryz.func25 (by kernel_rfl) (by kernel_rfl) h

theorem amphoralaw16_CatalogNames_vc (a0 : ByteArray) (a1 : Int) (w : World) (R : Ending → World → Prop) (h : Calls Tryz.prog 25 #[] w fun e9 w1 => ∃ t9, e9 = .returned (.bool t9) ∧ (((!t9) = true → (R (.returned (.bool false)) w1)) ∧ ((!t9) = false → (Calls Tryz.prog 26 #[(.string a0)] w1 fun e13 w2 => ∃ t13_0 t13_1, e13 = .returned (.tuple #[(.int .i64 t13_0), (.bool t13_1)]) ∧ (Calls Tryz.prog 27 #[(.string a0)] w2 fun e18 w3 => ∃ t18_0 t18_1, e18 = .returned (.tuple #[(.int .i64 t18_0), (.bool t18_1)]) ∧ (∃ J : Bool → World → Prop, ((((t13_0 != t18_0) || (!(t13_1 == t18_1))) = true → (J true w3)) ∧ (((t13_0 != t18_0) || (!(t13_1 == t18_1))) = false → (Calls Tryz.prog 28 #[(.string a0)] w3 fun e31 w4 => ∃ t31, e31 = .returned (.bool t31) ∧ (Calls Tryz.prog 29 #[(.string a0)] w4 fun e33 w5 => ∃ t33, e33 = .returned (.bool t33) ∧ (J (!(t31 == t33)) w5))))) ∧ (∀ x35, ∀ w6, J x35 w6 → ((x35 = true → (R (.returned (.bool false)) w6)) ∧ (x35 = false → ((((decide (a1 < (1 : Int))) || (decide (a1 > (1099511627776 : Int)))) = true → (Calls Tryz.prog 30 #[(.int .i64 a1)] w6 fun e43 w7 => ∃ t43, e43 = .returned (.string t43) ∧ (R (.returned (.bool (t43.toList == (ByteArray.mk #[]).toList))) w7))) ∧ (((decide (a1 < (1 : Int))) || (decide (a1 > (1099511627776 : Int)))) = false → (Calls Tryz.prog 30 #[(.int .i64 a1)] w6 fun e47 w8 => ∃ t47, e47 = .returned (.string t47) ∧ (Calls Tryz.prog 26 #[(.string t47)] w8 fun e48 w9 => ∃ t48_0 t48_1, e48 = .returned (.tuple #[(.int .i64 t48_0), (.bool t48_1)]) ∧ (Calls Tryz.prog 30 #[(.int .i64 a1)] w9 fun e52 w10 => ∃ t52, e52 = .returned (.string t52) ∧ (Calls Tryz.prog 31 #[(.int .i64 a1)] w10 fun e54 w11 => ∃ t54, e54 = .returned (.string t54) ∧ (R (.returned (.bool (((t52.toList == t54.toList) && t48_1) && (t48_0 == a1)))) w11)))))))))))))))) : Calls Tryz.prog 4 #[(.string a0), (.int .i64 a1)] w R := calls_of_ev2 (tc := .sq [.rg 1, .seq (.reg (.op (.cl [.bool]) (.op .p .nil))) (.cond (.seq (.rg 1) .leaf) .leaf), .reg (.op .p (.op (.cl [.int .i64, .bool]) (.pp 5 .nil))), .reg (.op .p (.op (.cl [.int .i64, .bool]) (.pp 5 .nil))), .seq (.join (lr [(21, 15)]) [35] [.bool] (.reg (.pp 4 (.ap 3 (.op .p (.sp 29 (.pp 6 .nil) (.op .p (.op (.cl [.bool]) (.op .p (.op (.cl [.bool]) (.pp 2 .nil))))))))))) (.cond (.seq (.rg 1) .leaf) .leaf), .seq (.reg (.pp 3 (.ap 2 .nil))) (.cond (.seq (.reg (.op .p (.op (.cl [.str]) (.pp 2 .nil)))) .leaf) .leaf), .reg (.op .p (.op (.cl [.str]) (.op (.cl [.int .i64, .bool]) (.pp 5 .nil)))), .reg (.op .p (.op (.cl [.str]) (.op .p (.op (.cl [.str]) (.pp 2 (.ap 1 (.op .p (.ap 3 (.op .p .nil)))))))))] .leaf) Tryz.func4 (by kernel_rfl) (by kernel_rfl) h

end Go.Proofs.YtpmhjnhgpplmnaaGreatDoor
end

section
namespace Go.Proofs.YtpmhjnhgpplmnaaGreatDoor
open Go Sx Gf2
set_option maxRecDepth 8000

def cmulN : Nat → Nat → Nat → Nat
 | 0, _, _ => 0
 | k + 1, a, b => (if b % 2 = 1 then a else 0) ^^^ (2 * cmulN k a (b / 2))
theorem cmulN_eq : ∀ (k a b : Nat), b < 2 ^ k → cmulN k a b = Gf2.cmul a b
 | 0, a, b, h => by obtain rfl : b = 0 := by omega
                    simp [cmulN]
 | k + 1, a, b, h => by rw [cmul_step, cmulN, cmulN_eq k a (b / 2) (by rw [Nat.pow_succ] at h; omega)]
def no283 : Bool := (List.range 32).all fun b => b < 2 || (List.range 256).all fun a => cmulN 5 a b != 283
theorem no283_true : no283 = true := by kernel_rfl
theorem irr283 : Irr 283 := by
 have hno : ∀ a b, 2 ≤ b → b < 32 → a < 256 → Gf2.cmul a b ≠ 283 := fun a b h2 h32 ha h => by
   have h1 := no283_true
   unfold no283 at h1
   rw [List.all_eq_true] at h1
   have h3 := h1 b (List.mem_range.2 h32)
   have hb : decide (b < 2) = false := by simp; omega
   rw [hb, Bool.false_or, List.all_eq_true] at h3
   have h4 := h3 a (List.mem_range.2 ha)
   rw [cmulN_eq 5 a b h32, h] at h4
   simp at h4
 refine ⟨by decide, fun a b h => ?_⟩
 have ha0 : a ≠ 0 := by rintro rfl; simp at h
 have hb0 : b ≠ 0 := by rintro rfl; simp at h
 have da := Gf2.degIs_log ha0
 have db := Gf2.degIs_log hb0
 have d2 := DegIs.cmul da _ b db
 rw [← h] at d2
 have d3 : Gf2.DegIs 283 8 := ⟨by decide, by decide⟩
 have hs := d2.uniq d3
 by_cases h1 : a = 1
 · exact .inl h1
 by_cases h2 : b = 1
 · exact .inr h2
 exfalso
 have p1 : a < 256 := Nat.lt_of_not_le fun hl => by
   have : 8 ≤ a.log2 := (Nat.le_log2 ha0).2 (by simpa using hl)
   have hb1 : b.log2 = 0 := by omega
   have := db.2
   rw [hb1] at this
   omega
 have p2 : b < 256 := Nat.lt_of_not_le fun hl => by
   have : 8 ≤ b.log2 := (Nat.le_log2 hb0).2 (by simpa using hl)
   have ha1 : a.log2 = 0 := by omega
   have := da.2
   rw [ha1] at this
   omega
 by_cases hb4 : b < 32
 · exact hno a b (by omega) hb4 p1 h.symm
 · have hb5 : 5 ≤ b.log2 := (Nat.le_log2 hb0).2 (by simpa using hb4)
   have ha4 : a < 32 := Nat.lt_of_not_le fun hl => by
     have : 5 ≤ a.log2 := (Nat.le_log2 ha0).2 (by simpa using hl)
     omega
   exact hno b a (by omega) ha4 p2 (by rw [Gf2.cmul_comm]; exact h.symm)
def setA : SetD := ⟨283, 1, 1, 4, 8⟩
theorem goodA : goodSet setA = true := by
 have h1 : degZ 283 = 8 := degZ_deg (d := 8) ⟨by decide, by decide⟩
 have h2 : irrB 283 = true := (irrB_iff 283).2 irr283
 simp [goodSet, gd1, gd2, gd3, gd4, setA, h1, h2]
def catA (n : Int) : CatD := ⟨n, 0, setA, [], []⟩
theorem check_catA (n : Int) (h : 1 ≤ n ∧ n ≤ 1099511627776) : checkB (catA n) = true := by
 simp only [checkB, headB, catA, goodA]
 simp [ascB, pksB, h]
theorem okA (n : Int) (h : 1 ≤ n ∧ n ≤ 1099511627776) : CatOk (catA n) :=
 ⟨⟨by show (-9223372036854775808 : Int) ≤ n; omega, by show n ≤ (9223372036854775807 : Int); omega⟩, ⟨show (-9223372036854775808 : Int) ≤ 0 by decide, show (0 : Int) ≤ 9223372036854775807 by decide⟩, show 283 < 18446744073709551616 by decide, show N63 1 ∧ N63 1 ∧ N63 4 ∧ N63 8 from ⟨⟨by decide, by decide⟩, ⟨by decide, by decide⟩, ⟨by decide, by decide⟩, ⟨by decide, by decide⟩⟩, show 0 ≤ 64 by decide, show 0 ≤ 1024 by decide, by simp [catA], by simp [catA]⟩
theorem catA_rd (n : Int) (w : World) : CatR w (catA n) none 0 0 none 0 0 := ⟨by show 283 < W64; unfold W64; decide, RdE.nil w, RdE.nil w, by simp [catA]⟩

theorem name1 : nameD 99 1 = [99, 49] := by
 have : Lib.itoa 1 = Lib.decDigits 1 := Lib.itoa_nonneg 1
 rw [nameD, this, Lib.decDigits_one (by decide)]
 rfl
def q1 (s : Int) : DiskM := ⟨s, [⟨[], 0⟩], [⟨[116], 0⟩], [], [⟨some 0, [], [116]⟩], 1, false, none, []⟩
def q2 (s : Int) (b : List UInt8) : DiskM := ⟨s, [⟨b, 0⟩], [⟨[116], 0⟩], [], [⟨some 0, [], [116]⟩], 2, false, none, []⟩
def q3 (s : Int) (b : List UInt8) : DiskM := ⟨s, [⟨b, b.length⟩], [⟨[116], 0⟩], [], [⟨some 0, [], [116]⟩], 3, false, none, []⟩
def q4 (s : Int) (b : List UInt8) : DiskM := ⟨s, [⟨b, b.length⟩], [⟨[116], 0⟩], [⟨[116], 0⟩], [], 4, false, none, []⟩
def q5 (s : Int) (b : List UInt8) : DiskM := ⟨s, [⟨b, b.length⟩], [⟨[99, 49], 0⟩], [⟨[116], 0⟩], [⟨none, [116], [99, 49]⟩], 5, false, none, []⟩
def q6 (s : Int) (b : List UInt8) : DiskM := ⟨s, [⟨b, b.length⟩], [⟨[99, 49], 0⟩], [⟨[99, 49], 0⟩], [], 6, false, none, []⟩
theorem thenM_none (m : DiskM) (f : DiskM → DiskM × Option Int) : thenM (m, none) f = f m := rfl
theorem runC_succ (b : List UInt8) (n : Nm) (k : Nat) (m : DiskM) : runC b n (k + 1) m = thenM (stepC b n (4 - k) m) (runC b n k) := rfl
theorem first_commit (s : Int) (b : List UInt8) (hb : (b.length : Int) ≤ s) : runC b [99, 49] 5 (newM s) = (q6 s b, none) := by
 have e1 : createM (newM s) tN = (q1 s, none) := rfl
 have e2 : appendM (q1 s) tN [b] = (q2 s b, none) := by
   have hf : foundE (q1 s) tN = none := rfl
   have hu : usedM (q1 s) = 0 := rfl
   unfold appendM
   rw [hf, hu]
   have : fits (s - (0 : Nat)) [b] = true := by simp [fits]; omega
   simp only
   rw [show (q1 s).size = s from rfl, this]
   show (appendF _ _ [b], none) = _
   simp [appendF, q1, q2, setF, fileAt, stepM, foundI, findD, findA, tN]
 have e3 : syncM (q2 s b) tN = (q3 s b, none) := rfl
 have e4 : syncDirM (q3 s b) = (q4 s b, none) := rfl
 have e5 : renameM (q4 s b) tN [99, 49] = (q5 s b, none) := rfl
 have e6 : syncDirM (q5 s b) = (q6 s b, none) := rfl
 have f1 : stepC b [99, 49] (4 - 4) (newM s) = (q1 s, none) := e1
 have f2 : stepC b [99, 49] (4 - 3) (q1 s) = (q2 s b, none) := e2
 have f3 : stepC b [99, 49] (4 - 2) (q2 s b) = (q3 s b, none) := e3
 have f4 : stepC b [99, 49] (4 - 1) (q3 s b) = (q4 s b, none) := e4
 have f5 : stepC b [99, 49] (4 - 0) (q4 s b) = (q5 s b, none) := e5
 rw [runC_succ, f1, thenM_none, runC_succ, f2, thenM_none, runC_succ, f3, thenM_none, runC_succ, f4, thenM_none, runC_succ, f5, thenM_none]
 show endM _ (q5 s b) = _
 unfold endM
 rw [e6]
theorem commit_new (K : List UInt8) (s : Int) (hb : ((encC K (catA 1)).length : Int) ≤ s) : commitM K (catA 1) (newM s) = (q6 s (encC K (catA 1)), none) := by
 unfold commitM
 rw [check_catA 1 (by decide), if_pos rfl, show (catA 1).gen = 1 from rfl, name1]
 have ha : asideM tN (newM s) = (newM s, none) := rfl
 rw [ha]
 exact first_commit s _ hb
theorem plainA_len (n : Int) (h : 1 ≤ n ∧ n ≤ 1099511627776) (K : List UInt8) : (encC K (catA n)).length ≤ 200 := by
 have ok := okA n h
 have hp := plain_len ok
 rw [encC, sealF_len _ _ _ _ (by omega)]
 have h1 := varZ_le (z := 1) ⟨by decide, by decide⟩
 have h4 := varZ_le (z := 4) ⟨by decide, by decide⟩
 have h8 := varZ_le (z := 8) ⟨by decide, by decide⟩
 have h0 := varZ_le (z := 0) ⟨by decide, by decide⟩
 have : (plainB (catA n)).length ≤ 100 := by
   simp only [plainB, catA, setA, numsZ, varsZ, List.map_cons, List.map_nil, List.flatten_cons, List.flatten_nil, List.append_nil, List.length_append, numZ_len, List.flatMap_nil, List.length_nil, Int.ofNat_zero, Int.natCast_zero]
   omega
 omega

theorem plain16_spec (n : Int) (w : World) : Calls Tryz.prog 93 #[.int .i64 n] w fun e w' => e = .returned (.agg (catC (catA n) none 0 0 none 0 0).toArray) ∧ Chg [] w w' := by
 apply amphoralaw16_plain_vc
 obtain ⟨g2, w1, r1, k1⟩ := (St.start w).zeroA caZ16
 obtain ⟨w2, r2, k2⟩ := k1.stA (i := 0) (v := catC (catA n) none 0 0 none 0 0) rfl (caS16 _) rfl rfl (catC_one _ _ _ _ _ _ _)
 have hb : (Instr.build 47 #[(0, .int .i64 n), (2, .agg (setC setA).toArray)]).run Tryz.prog w1 = .ok (.agg (catC (catA n) none 0 0 none 0 0).toArray) w1 := by
   apply run_build
   rw [built_cat]
   show Instr.fill _ _ [(0, _), (2, _)] = _
   rw [fill_step (off := 0) (sz := 1) rfl rfl (by simp [Value.cells, catZ]), fill_step (off := 2) (sz := 5) rfl rfl (by simp [Value.cells, catZ])]
   rfl
 exact ⟨g2, w1, r1, _, set_build setA w1, _, hb, w2, r2, _, k2.ldVarA (i := 0) rfl (caA16 _) (caS16 _) rfl, rfl, k2.chg⟩

end Go.Proofs.YtpmhjnhgpplmnaaGreatDoor
end

section
namespace Go.Proofs.YtpmhjnhgpplmnaaGreatDoor
open Go Sx
set_option maxRecDepth 8000

def mas1L : List UInt8 := 1 :: List.replicate 31 0
theorem build_mas1L (w : World) : (Instr.build 39 #[(0, .int .u8 1)]).run Tryz.prog w = .ok (.agg (bv mas1L).toArray) w := by
 have := build_arr (P := Tryz.prog) (w := w) (T := 39) (d32Z w) Tryz.underlying39 (Tryz.sizeOf5 w) [.int .u8 1] (by simp [Value.oneCell']) (by simp)
 exact this

theorem cats_new (K : List UInt8) (s : Int) : CatsOk K (fun _ => cat0) (newM s) := fun n hn => by simp [namesM, newM] at hn
theorem genO1 : genO [99, 49] = some 1 := (numO_iff (by omega) (by omega)).2 ⟨by decide, by decide, name1⟩
theorem cats_q6 (K : List UInt8) (s : Int) : CatsOk K (fun _ => catA 1) (q6 s (encC K (catA 1))) := fun n hn g hg => by
 have hn : n = [99, 49] := by simpa [namesM, q6] using hn
 subst hn
 rw [genO1] at hg
 simp only [Option.some.injEq] at hg
 subst hg
 exact ⟨rfl, check_catA 1 (by decide), okA 1 (by decide), rfl⟩
theorem best_q6 (K : List UInt8) (s : Int) : bestC (fun _ => catA 1) (namesM (q6 s (encC K (catA 1)))) = catA 1 ∧ anyG (namesM (q6 s (encC K (catA 1)))) = true := by
 have hn : namesM (q6 s (encC K (catA 1))) = [[99, 49]] := rfl
 rw [hn]
 refine ⟨?_, ?_⟩
 · show bestS (fun _ => catA 1) cat0 [99, 49] = catA 1
   unfold bestS
   rw [genO1]
   exact if_pos (show (0 : Int) < 1 by decide)
 · simp [anyG, genO1]

set_option maxHeartbeats 2000000 in
theorem alive16_spec (w : World) (hK : KTab w) (hT : PTab w) (hE : EVar w) : Calls Tryz.prog 25 #[] w fun e w' => e = .returned (.bool true) ∧ Chg [] w w' := by
 obtain ⟨mI, hI⟩ := eI
 obtain ⟨K, hKK⟩ : ∃ K, masterF mas1L = K := ⟨_, rfl⟩
 have hk : K.length = 96 := by rw [← hKK]; simp
 have hlen := plainA_len 1 (by decide) K
 have hcm := commit_new K 1000 (by omega)
 apply amphoralaw16_alive_vc
 refine ⟨_, build_mas1L w, (rfromMaster_spec mas1L w rfl).mono ?_⟩
 rintro e w1 ⟨rfl, c1⟩
 rw [hKK]
 obtain ⟨g1, w2, r2, k2⟩ := ((St.start w).same c1).zeroA kyZ
 obtain ⟨w3, r3, k3⟩ := k2.stA (i := 0) (v := bv K) rfl (kyS _) (by simp) (by simp [hk]) (bv_one _)
 have k3 : St w [] w3 [.arr g1 41 (bv K)] := k3
 refine ⟨_, rfl, g1, w2, r2, w3, r3, (newDisk_spec 1000 w3).mono ?_⟩
 rintro e w4 (⟨hbad, _⟩ | ⟨_, gd, rfl, h4⟩)
 · omega
 have h4 := DiskIn.under k3 h4
 have ldK : ∀ {w' : World} {ps m R}, DiskIn w [] w' gd ps m (.arr g1 41 (bv K) :: R) → (Instr.loadAt 41 (.pointer (some ⟨g1, 0, none⟩))).run Tryz.prog w' = .ok (.agg (bv K).toArray) w' := fun h => h.rest.ldA (i := 0) (l := bv K) rfl (kyA _) (kyS _) (by simp [hk])
 refine ⟨_, _, rfl, fun x w' => x = false ∧ w' = w4, ⟨_, neqS_nil hI none _ _, fun h => (by cases h), fun _ => ⟨_, eqPtr .eql (.inl rfl) dkT _ _ _ _, rfl, rfl⟩⟩, ?_⟩
 rintro x w5 ⟨rfl, rfl⟩
 refine ⟨fun h => (by cases h), fun _ => ⟨_, ldK h4, (load_spec K hk (fun _ => cat0) (cats_new K 1000) h4 rfl hK hT hE).mono ?_⟩⟩
 rintro e w6 ⟨sa, sc, pa, pc, rfl, k6⟩
 have h6 := h4.same k6.chg
 obtain ⟨g4, w7, r7, k7⟩ := (St.start w6).zeroA caZ16
 obtain ⟨w8, r8, k8⟩ := k7.stA (i := 0) (v := catC cat0 sa 0 sc pa 0 pc) rfl (caS16 _) rfl rfl (catC_one _ _ _ _ _ _ _)
 have h8 := (h6.addSt k8).cut.same (Chg.drew [] w8)
 let S : World → Prop := fun w' => ∃ ps m, DiskIn w [] w' gd ps m [.arr g1 41 (bv K)]
 refine ⟨_, _, rfl, g4, w7, r7, w8, r8, S, ⟨_, _, h8⟩, _, fun v ⟨_, _, h⟩ => ldK h, (plain16_spec 1 w8.drew).mono ?_⟩
 rintro e w9 ⟨rfl, c9⟩
 have h9 := h8.same c9
 refine ⟨_, rfl, S, fun _ h => h, ⟨_, _, h9⟩, (commit_spec K hk (catA 1) none 0 0 none 0 0 h9 hK hT (catA_rd 1 w9) (fun _ => okA 1 (by decide)) ⟨by decide, by decide⟩).mono ?_⟩
 rintro e w10 ⟨rfl, ps2, h10⟩
 rw [hcm] at h10 ⊢
 obtain ⟨b1, b2⟩ := best_q6 K 1000
 have hld := load_spec K hk (fun _ => catA 1) (cats_q6 K 1000) h10 rfl hK hT hE
 rw [b1, b2] at hld
 refine ⟨_, rfl, S, fun _ h => h, ⟨_, _, h10⟩, _, ldK h10, hld.mono ?_⟩
 rintro e w11 ⟨sa2, sc2, pa2, pc2, rfl, k11⟩
 have h11 := h10.same k11.chg
 obtain ⟨g6, w12, r12, k12⟩ := (St.start w11).zeroA caZ16
 obtain ⟨w13, r13, k13⟩ := k12.stA (i := 0) (v := catC (catA 1) sa2 0 sc2 pa2 0 pc2) rfl (caS16 _) rfl rfl (catC_one _ _ _ _ _ _ _)
 have h13 := h11.addSt k13
 refine ⟨_, _, rfl, g6, w12, r12, w13, r13, _, eqlS_nil hI none _ _, fun _ => ⟨_, eqlS_err hI (some 21) 21 _ _ _, fun _ => ⟨_, eqlS_nil hI none _ _, fun _ => ⟨_, h13.top.ldL (i := 0) (o := 0) rfl (intA _) rfl rfl, fun _ => (steps_spec h13).mono ?_, fun h => by simp [catA] at h⟩, fun h => by simp at h⟩, fun h => by simp at h⟩, fun h => by simp at h⟩
 rintro e w14 ⟨rfl, rfl⟩
 refine ⟨_, rfl, fun _ => (listD_spec h13).mono ?_, fun h => by simp [q6] at h⟩
 rintro e w15 ⟨la, lc, rfl, k15⟩
 exact ⟨_, _, _, rfl, rfl, (h13.same k15.chg).chg⟩

theorem catalogNames_walk (s : List UInt8) (hs : s.length ≤ 281474976710656) (x : Int) (hx : -9223372036854775808 ≤ x ∧ x ≤ 9223372036854775807) (w : World) (hK : KTab w) (hT : PTab w) (hE : EVar w) :
   Calls Tryz.prog 4 #[strV s, .int .i64 x] w fun e w' => e = .returned (.bool true) ∧ Chg [] w w' := by
 apply amphoralaw16_CatalogNames_vc
 refine (alive16_spec w hK hT hE).mono ?_
 rintro e w1 ⟨rfl, c1⟩
 refine ⟨_, rfl, fun h => by simp at h, fun _ => (catgen_spec s hs w1 (hT.keep0 c1) (hE.keep0 c1)).mono ?_⟩
 rintro e w2 ⟨rfl, c2⟩
 refine ⟨_, _, rfl, (refgen_spec s w2).mono ?_⟩
 rintro e w3 ⟨rfl, c3⟩
 have c123 := (c1.trans c2).trans c3
 refine ⟨_, _, rfl, fun t w' => t = false ∧ w' = w3, ⟨fun h => by simp at h, fun _ => (snName_spec s (by omega) w3).mono ?_⟩, ?_⟩
 · rintro e w4 ⟨rfl, rfl⟩
   refine ⟨_, rfl, (rsnName_spec s (by omega) w4).mono ?_⟩
   rintro e w5 ⟨rfl, rfl⟩
   exact ⟨_, rfl, by simp, rfl⟩
 rintro t w6 ⟨rfl, rfl⟩
 refine ⟨fun h => by simp at h, fun _ => ⟨fun h => ?_, fun h => ?_⟩⟩
 · refine (catname_spec x hx w6 (hT.keep0 c123)).mono ?_
   rintro e w7 ⟨rfl, c7⟩
   have hg : goodG x = false := by
     rw [Bool.eq_false_iff]
     intro hg
     have := goodG_iff.1 hg
     simp at h; omega
   rw [hg]
   exact ⟨_, rfl, by simp, c123.trans c7⟩
 · have hr : 1 ≤ x ∧ x ≤ 1099511627776 := by simp at h; omega
   have hg : goodG x = true := goodG_iff.2 hr
   have hn : numO 99 1 1099511627776 (nameD 99 x) = some x := (numO_iff (by omega) (by omega)).2 ⟨hr.1, hr.2, rfl⟩
   have hnl : (nameD 99 x).length ≤ 281474976710656 := by
     have := Lib.itoa_length_le x (by omega) (by omega)
     simp only [nameD, List.length_cons]; omega
   have q := fun w' (c : Chg [] w w') => catname_spec x hx w' (hT.keep0 c)
   rw [hg, if_pos rfl] at q
   refine (q w6 c123).mono ?_
   rintro e w7 ⟨rfl, c7⟩
   have c7 := c123.trans c7
   refine ⟨_, rfl, (catgen_spec _ hnl w7 (hT.keep0 c7) (hE.keep0 c7)).mono ?_⟩
   rintro e w8 ⟨rfl, c8⟩
   have c8 := c7.trans c8
   rw [hn]
   refine ⟨_, _, rfl, (q w8 c8).mono ?_⟩
   rintro e w9 ⟨rfl, c9⟩
   refine ⟨_, rfl, (refname16_spec x ⟨by omega, hr.2⟩ w9).mono ?_⟩
   rintro e w10 ⟨rfl, c10⟩
   refine ⟨_, rfl, ?_, (c8.trans c9).trans c10⟩
   simp

end Go.Proofs.YtpmhjnhgpplmnaaGreatDoor
end

section
namespace Go.Proofs.YtpmhjnhgpplmnaaGreatDoor
open Go Sx
set_option maxRecDepth 8000

theorem laidP_eq : (Rows.laid_internal_strconv_uint64pow10 : DataW Unit) = Lib.tabData .u64 Lib.pow10Tab := by kernel_rfl
theorem pTab_of_laid {W : World} {rest : List (String × DataW Unit)} (hp : ∀ w, laidMetH Tryz.prog (("internal/strconv.uint64pow10", Rows.laid_internal_strconv_uint64pow10) :: rest) w = laidMet Tryz.prog (("internal/strconv.uint64pow10", Rows.laid_internal_strconv_uint64pow10) :: rest) w) (h : laidMetH Tryz.prog (("internal/strconv.uint64pow10", Rows.laid_internal_strconv_uint64pow10) :: rest) W) : PTab W := by
 rw [hp, laidP_eq] at h
 have hg : Tryz.prog.globalNamed "internal/strconv.uint64pow10" = some 3 := by kernel_rfl
 exact Lib.tabIs_of_head hg (by kernel_rfl) Tryz.underlying459 Tryz.underlying42 (by kernel_rfl) (by kernel_rfl) h

end Go.Proofs.YtpmhjnhgpplmnaaGreatDoor
end

section
namespace Go.Proofs.YtpmhjnhgpplmnaaGreatDoor
open Go Sx
set_option maxRecDepth 8000

theorem row_es (u : TypeId) (h : Tryz.prog.typeName? 3 u = some "*errors.errorString") : u = 455 := by
 have e : "*" ++ "errors.errorString" = "*errors.errorString" := by decide
 exact typeName_ptr_named (nm := "errors.errorString") (by rw [e]; kernel_rfl) (by kernel_rfl) (by decide) u (by rw [e]; exact h)
theorem cells_es : Tryz.prog.cellsOf 457 = 1 := by kernel_rfl
theorem cells_s : Tryz.prog.cellsOf 9 = 1 := by kernel_rfl
theorem eVar_of_laid {W : World} (h1 : laidMetH Tryz.prog [("strconv.ErrSyntax", Rows.laid_strconv_ErrSyntax)] W) (h2 : laidMetH Tryz.prog [("strconv.ErrRange", Rows.laid_strconv_ErrRange)] W) : EVar W := by
 rw [MakeChecks.laidMetH_plain _ _ _ (by kernel_rfl)] at h1 h2
 have g1 : Tryz.prog.globalNamed "strconv.ErrSyntax" = some 0 := by kernel_rfl
 have g2 : Tryz.prog.globalNamed "strconv.ErrRange" = some 1 := by kernel_rfl
 have t1 : (Tryz.prog.globals[0]?).map (·.type) = some 58 := by kernel_rfl
 have t2 : (Tryz.prog.globals[1]?).map (·.type) = some 58 := by kernel_rfl
 obtain ⟨a, _, v1, _⟩ := laid_sentinel h1 g1 t1 Tryz.underlying58 row_es Tryz.underlying455 Tryz.underlying457 rfl rfl Tryz.underlying9 cells_es cells_s
 obtain ⟨b, _, v2, _⟩ := laid_sentinel h2 g2 t2 Tryz.underlying58 row_es Tryz.underlying455 Tryz.underlying457 rfl rfl Tryz.underlying9 cells_es cells_s
 exact ⟨⟨_, _, v1⟩, _, _, v2⟩

end Go.Proofs.YtpmhjnhgpplmnaaGreatDoor
end
