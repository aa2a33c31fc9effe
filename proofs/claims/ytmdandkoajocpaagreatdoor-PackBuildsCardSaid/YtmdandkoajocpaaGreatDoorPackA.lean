/- Contracts of pack: a packfile in the making (conditions: those that each theorem names). -/
import Derived.Test.YtmdandkoajocpaaGreatDoorPackF
import Derived.Test.YtmdandkoajocpaaGreatDoorSealK
import Derived.Test.YtmdandkoajocpaaGreatDoorVpack
namespace Go.Proofs.YtmdandkoajocpaaGreatDoor
open Go Sx
set_option maxRecDepth 8000

/-- A piece of a file. -/
structure PcD where
  a : Option Addr
  c : Nat
  l : List UInt8
def PcD.v (p : PcD) : Value := .slice p.a p.l.length p.c
def PcD.row (p : PcD) : Res := .row 5 1 (.slice p.a p.l.length p.c) p.l.length (bv p.l)
structure FP where
  la : Option Addr
  lc : Nat
  ps : List PcD
  ra : Option Addr
  rc : Nat
  rs : List RefD
def fileL (num : Int) (f : FP) : List Value := [.slice f.la f.ps.length f.lc, .int .i64 (((f.ps.map PcD.l).flatten.length : Nat) : Int), .int .i64 num, .slice f.ra f.rs.length f.rc]
def fileR (g : Nat) (num : Int) (f : FP) : List Res := [.arr g 105 (fileL num f), .row 33 1 (.slice f.la f.ps.length f.lc) f.ps.length (f.ps.map PcD.v), .row 75 35 (.slice f.ra f.rs.length f.rc) f.rs.length (f.rs.flatMap refC)]
/-- A packfile in the making that is held. -/
def FileIn (w0 : World) (X : List Nat) (w : World) (g : Nat) (num : Int) (ps : List (List UInt8)) (rs : List RefD) (N : List Res) : Prop := ∃ f : FP, f.ps.map PcD.l = ps ∧ f.rs = rs ∧ St w0 X w (fileR g num f ++ (f.ps.map PcD.row ++ N))

theorem bbA' (w : World) : (isAgg 23).run Tryz.prog w = .ok false w := Tryz.isAgg23 w
theorem bbS' (w : World) : (sizeOf 23).run Tryz.prog w = .ok 1 w := Tryz.sizeOf23 w
theorem inS' (w : World) : (sizeOf 3).run Tryz.prog w = .ok 1 w := Tryz.sizeOf3 w
theorem rsA' (w : World) : (isAgg 34).run Tryz.prog w = .ok false w := Tryz.isAgg34 w
theorem rsS' (w : World) : (sizeOf 34).run Tryz.prog w = .ok 1 w := Tryz.sizeOf34 w
theorem bsA' (w : World) : (isAgg 33).run Tryz.prog w = .ok false w := Tryz.isAgg33 w

section
variable {w0 w w' : World} {X : List Nat} {N N' T : List Res} {g : Nat} {num : Int} {ps : List (List UInt8)} {rs : List RefD}

theorem FileIn.same (h : FileIn w0 X w g num ps rs N) (hc : Chg [] w w') : FileIn w0 X w' g num ps rs N := by obtain ⟨f, h1, h2, hS⟩ := h; exact ⟨f, h1, h2, hS.same hc⟩
theorem FileIn.chg (h : FileIn w0 X w g num ps rs N) : Chg X w0 w := by obtain ⟨f, h1, h2, hS⟩ := h; exact hS.chg
theorem FileIn.rest (h : FileIn w0 X w g num ps rs N) : St w0 X w N := by
  obtain ⟨f, h1, h2, hS⟩ := h
  exact hS.sub ((List.sublist_append_right _ _).trans (List.sublist_append_right _ _))
theorem FileIn.addSt (h : FileIn w0 X w g num ps rs N) (h' : St w [] w' T) : FileIn w0 X w' g num ps rs (N ++ T) := by
  obtain ⟨f, h1, h2, hS⟩ := h
  refine ⟨f, h1, h2, ?_⟩
  have := Sx.St.callPart (N := []) (by rw [List.append_nil]; exact hS) h'
  rw [List.append_assoc, List.append_assoc] at this
  exact this
theorem FileIn.dropN (h : FileIn w0 X w g num ps rs N) (hn : N'.Sublist N) : FileIn w0 X w g num ps rs N' := by
  obtain ⟨f, h1, h2, hS⟩ := h
  exact ⟨f, h1, h2, hS.sub (List.Sublist.append_left (List.Sublist.append_left hn _) _)⟩

theorem pkput_spec' {f : FP} {a : Option Addr} {c : Nat} {l : List UInt8} (hS : St w0 X w (fileR g num f ++ (f.ps.map PcD.row ++ (N ++ [.row 5 1 (.slice a l.length c) l.length (bv l)])))) (hp : f.ps.length < 1000000) (hb : (f.ps.map PcD.l).flatten.length + l.length ≤ 4611686018427387904) :
    Calls Tryz.prog 102 #[.pointer (some ⟨g, 0, none⟩), .slice a l.length c] w fun e w' => e = .returned (.tuple #[]) ∧ ∃ la lc, St w0 X w' (fileR g num { f with la := la, lc := lc, ps := f.ps ++ [⟨a, c, l⟩] } ++ ((f.ps ++ [(⟨a, c, l⟩ : PcD)]).map PcD.row ++ N)) := by
  apply pack_pieces_put_vc
  obtain ⟨g2, w2, va, vc, w3, r2, r3, h3, h2, c2⟩ := hS.pushV (i := 1) (ty := 23) bbT rfl (.slice a l.length c) rfl (by omega) (by simp only [maxLen]; omega)
  obtain ⟨w4, r4, h4⟩ := h3.stL (i := 0) (o := 0) (off := 0) (T := 23) (v := .slice va (f.ps.length + 1) vc) rfl (bbS' _) rfl (by simp [fileL]) rfl
  have e1 : IntKind.wrap .i64 ((((f.ps.map PcD.l).flatten.length : Nat) : Int) + ((l.length : Nat) : Int)) = ((((f.ps ++ [(⟨a, c, l⟩ : PcD)]).map PcD.l).flatten.length : Nat) : Int) := by
    rw [wrap_i64 (by omega) (by omega)]; simp
  obtain ⟨w5, r5, h5⟩ := h4.stL (i := 0) (o := 1) (off := 1) (T := 3) (v := .int .i64 ((((f.ps ++ [(⟨a, c, l⟩ : PcD)]).map PcD.l).flatten.length : Nat) : Int)) rfl (inS' _) rfl (by simp [fileL]) rfl
  refine ⟨_, _, _, hS.ldL (i := 0) (o := 0) rfl (bbA' _) rfl rfl, _, _, _, w2, r2, _, _, _, w3, r3, w4, r4, _, h4.ldL (i := 0) (o := 1) rfl (inA _) rfl rfl, w5, by rw [e1]; exact r5, rfl, va, vc, ?_⟩
  have h6 : St w0 X w5 ([.arr g 105 [.slice va (f.ps.length + 1) vc, .int .i64 ((((f.ps ++ [(⟨a, c, l⟩ : PcD)]).map PcD.l).flatten.length : Nat) : Int), .int .i64 num, .slice f.ra f.rs.length f.rc], .row 33 1 (.slice va (f.ps.length + 1) vc) (f.ps.length + 1) (f.ps.map PcD.v ++ [.slice a l.length c]), .row 75 35 (.slice f.ra f.rs.length f.rc) f.rs.length (f.rs.flatMap refC)] ++ (f.ps.map PcD.row ++ (N ++ [.row 5 1 (.slice a l.length c) l.length (bv l)]))) := h5
  have e2 : fileR g num { f with la := va, lc := vc, ps := f.ps ++ [⟨a, c, l⟩] } = [.arr g 105 [.slice va (f.ps.length + 1) vc, .int .i64 ((((f.ps ++ [(⟨a, c, l⟩ : PcD)]).map PcD.l).flatten.length : Nat) : Int), .int .i64 num, .slice f.ra f.rs.length f.rc], .row 33 1 (.slice va (f.ps.length + 1) vc) (f.ps.length + 1) (f.ps.map PcD.v ++ [.slice a l.length c]), .row 75 35 (.slice f.ra f.rs.length f.rc) f.rs.length (f.rs.flatMap refC)] := by
    simp [fileR, fileL, PcD.v]
  rw [e2]
  refine h6.perm (List.Perm.append_left _ ?_)
  show (f.ps.map PcD.row ++ (N ++ [PcD.row ⟨a, c, l⟩])).Perm ((f.ps ++ [(⟨a, c, l⟩ : PcD)]).map PcD.row ++ N)
  rw [List.map_append, List.append_assoc]
  exact List.Perm.append_left _ List.perm_append_comm

theorem pkput_spec {a : Option Addr} {c : Nat} {l : List UInt8} (h : FileIn w0 X w g num ps rs (N ++ [.row 5 1 (.slice a l.length c) l.length (bv l)])) (hp : ps.length < 1000000) (hb : ps.flatten.length + l.length ≤ 4611686018427387904) :
    Calls Tryz.prog 102 #[.pointer (some ⟨g, 0, none⟩), .slice a l.length c] w fun e w' => e = .returned (.tuple #[]) ∧ FileIn w0 X w' g num (ps ++ [l]) rs N := by
  obtain ⟨f, rfl, rfl, hS⟩ := h
  refine (pkput_spec' hS (by simpa using hp) hb).mono ?_
  rintro e w' ⟨rfl, la, lc, h'⟩
  exact ⟨rfl, { f with la := la, lc := lc, ps := f.ps ++ [⟨a, c, l⟩] }, by simp, rfl, h'⟩

theorem built_file : Tryz.prog.built 105 = fun parts => Instr.fill (fun i => (#[(0, 2), (2, 1), (3, 1)] : Array (Nat × Nat))[i]?) #[.slice none 0 0, .int .i64 0, .int .i64 0, .slice none 0 0] parts := by kernel_rfl
theorem file_build (num : Int) (w : World) : (Instr.build 105 #[(1, .int .i64 num)]).run Tryz.prog w = .ok (.agg #[.slice none 0 0, .int .i64 0, .int .i64 num, .slice none 0 0]) w := by
  apply run_build
  rw [built_file]
  show Instr.fill _ _ [(1, _)] = _
  rw [fill_step (off := 2) (sz := 1) rfl rfl (by simp)]
  rfl

theorem num_bytes' (x : Int) (w : World) : Calls Tryz.prog 58 #[.int .i64 x] w fun e w' => ∃ a c, e = .returned (.slice a 8 c) ∧ FreshB w w' a 8 c (numL (n64 x)) := by
  refine (num_bytes x w).mono ?_
  rintro e w' ⟨a, n, c, rfl, hf⟩
  have hn : n = 8 := by rw [← hf.2.1]; exact numL_len _
  subst hn
  exact ⟨a, c, rfl, hf⟩

theorem pkbegin_spec (num : Int) (w : World) : Calls Tryz.prog 70 #[.int .i64 num] w fun e w' => ∃ g, e = .returned (.pointer (some ⟨g, 0, none⟩)) ∧ FileIn w [] w' g num [headP num] [] [] := by
  apply pack_begin_vc
  obtain ⟨g, w1, r1, h1⟩ := (St.start w).boxA (P := Tryz.prog) 105 [.slice none 0 0, .int .i64 0, .int .i64 num, .slice none 0 0]
  have h1f : FileIn w [] w1 g num [] [] [] := ⟨⟨none, 0, [], none, 0, []⟩, rfl, rfl, (h1.addNil 33 1).addNil 75 35⟩
  refine ⟨_, file_build num w, g, w1, r1, fun w' => FileIn w [] w' g num [headP num] [] [], ?_, fun w' hw => ⟨g, rfl, hw⟩⟩
  have fin : ∀ {w' : World} {M : List Res} {g2 : Nat} {a : Option Addr} {c : Nat}, FileIn w [] w' g num [] [] M → RdB w' (some ⟨g2, 0, none⟩) 8 8 magicL → RdB w' a 8 c (numL (n64 num)) → ∃ va vc w'', (Builtin.append_ #[33, 33] 33 #[.slice (some ⟨g2, 0, none⟩) 8 8, .slice a 8 c]).run Tryz.prog w' = .ok (.slice va 16 vc) w'' ∧
      Calls Tryz.prog 102 #[.pointer (some ⟨g, 0, none⟩), .slice va 16 vc] w'' fun e w3 => e = .returned (.tuple #[]) ∧ FileIn w [] w3 g num [headP num] [] [] := by
    intro w' M g2 a c hF hm hn
    obtain ⟨va, vc, w2, r2, k2⟩ := (St.start w').appendRdB hm (by simp) hn (by decide) (by decide)
    refine ⟨va, vc, w2, r2, ?_⟩
    have hF2 := hF.addSt k2
    have e16 : (headP num).length = 16 := headP_len num
    have hF3 : FileIn w [] w2 g num [] [] (M ++ [.row 5 1 (.slice va (headP num).length vc) (headP num).length (bv (headP num))]) := by rw [e16]; exact hF2
    have := pkput_spec hF3 (by simp) (by simp)
    rw [e16] at this
    refine this.mono ?_
    rintro e w3 ⟨rfl, h3⟩
    exact ⟨rfl, h3.dropN (List.nil_sublist _)⟩
  have lit : ∀ w', ∃ g2 w'', (Instr.buildSlice 33 8 #[(0, .int .u8 97), (1, .int .u8 109), (2, .int .u8 112), (3, .int .u8 104), (4, .int .u8 112), (5, .int .u8 97), (6, .int .u8 99), (7, .int .u8 107)]).run Tryz.prog w' = .ok (.slice (some ⟨g2, 0, none⟩) 8 8) w'' ∧ St w' [] w'' [.row 5 1 (.slice (some ⟨g2, 0, none⟩) 8 8) 8 (bv magicL)] := fun w' => (St.start w').lit bT (bv magicL) (bv_one _) (by decide)
  refine ⟨?_, ?_⟩
  · obtain ⟨g2, w2, r2, k2⟩ := lit w1.drew
    refine ⟨_, _, _, w2, r2, ?_, ?_⟩
    · obtain ⟨w3, o, r3, k3, ho⟩ := convHold k2 (i := 0) rfl
      have k3 : St w1.drew [] w3 [.blk g2 o] := k3
      refine ⟨_, _, _, w3, r3, (num_bytes' num w3).mono ?_⟩
      rintro e w4 ⟨a, c, rfl, hf⟩
      have k4 : St w1.drew [] w4 [.blk g2 o, .row 5 1 (.slice a 8 c) 8 (bv (numL (n64 num)))] := hf.add k3
      obtain ⟨va, vc, w5, r5, hC⟩ := fin ((h1f.same (Chg.drew [] w1)).addSt k4) (ho _ (k4.holds 0 _ rfl)) (k4.rd (i := 1) rfl)
      exact ⟨_, _, _, rfl, _, _, _, w5, r5, hC⟩
    · refine (num_bytes' num w2).mono ?_
      rintro e w3 ⟨a, c, rfl, hf⟩
      have k3 : St w1.drew [] w3 [.row 5 1 (.slice (some ⟨g2, 0, none⟩) 8 8) 8 (bv magicL), .row 5 1 (.slice a 8 c) 8 (bv (numL (n64 num)))] := hf.add k2
      obtain ⟨w4, o, r4, k4, ho⟩ := convHold k3 (i := 0) rfl
      have k4 : St w1.drew [] w4 [.blk g2 o, .row 5 1 (.slice a 8 c) 8 (bv (numL (n64 num)))] := k4
      obtain ⟨va, vc, w5, r5, hC⟩ := fin ((h1f.same (Chg.drew [] w1)).addSt k4) (ho _ (k4.holds 0 _ rfl)) (k4.rd (i := 1) rfl)
      exact ⟨_, _, _, rfl, _, _, _, w4, r4, _, _, _, w5, r5, hC⟩
  · refine (num_bytes' num w1.drew).mono ?_
    rintro e w2 ⟨a, c, rfl, hf⟩
    have k2 : St w1.drew [] w2 [.row 5 1 (.slice a 8 c) 8 (bv (numL (n64 num)))] := hf.add (St.start w1.drew)
    obtain ⟨g2, w3, r3, k3⟩ := k2.lit bT (bv magicL) (bv_one _) (by decide)
    have k3 : St w1.drew [] w3 [.row 5 1 (.slice a 8 c) 8 (bv (numL (n64 num))), .row 5 1 (.slice (some ⟨g2, 0, none⟩) 8 8) 8 (bv magicL)] := k3
    obtain ⟨w4, o, r4, k4, ho⟩ := convHold k3 (i := 1) rfl
    have k4 : St w1.drew [] w4 [.row 5 1 (.slice a 8 c) 8 (bv (numL (n64 num))), .blk g2 o] := k4
    obtain ⟨va, vc, w5, r5, hC⟩ := fin ((h1f.same (Chg.drew [] w1)).addSt k4) (ho _ (k4.holds 1 _ rfl)) (k4.rd (i := 0) rfl)
    exact ⟨_, _, _, rfl, _, _, _, w3, r3, _, _, _, w4, r4, _, _, _, w5, r5, hC⟩

end

end Go.Proofs.YtmdandkoajocpaaGreatDoor
