/- Contracts, several texts in one (conditions: those that each theorem names). -/
import Derived.Test.YtmdandkoajocpaaGreatDoorShaE
import Derived.Test.YtmdandkoajocpaaGreatDoorEqS
import Derived.Laws.CopyRow
import Derived.Laws.IdiomCopy
import Derived.Test.YtmdandkoajocpaaGreatDoorVsha
namespace Go.Proofs.YtmdandkoajocpaaGreatDoor
open Go Sx
set_option maxRecDepth 8000

theorem o64A (w : World) : (isAgg 207).run Tryz.prog w = .ok true w := Tryz.isAgg207 w
theorem o64S (w : World) : (sizeOf 207).run Tryz.prog w = .ok 64 w := Tryz.sizeOf207 w
theorem o64Z (w : World) : (zeroValue 207).run Tryz.prog w = .ok (.agg (bv (List.replicate 64 0)).toArray) w := Tryz.zeroValue207 w
theorem sB1 (w : World) : (sizeOf 5).run Tryz.prog w = .ok 1 w := Tryz.sizeOf5 w

/-- copy into the front of an array. -/
theorem Sx.St.copyB {w0 w : World} {X : List Nat} {M : List Res} (h : St w0 X w M) {i g T n c d : Nat} {a : Option Addr} {l src : List UInt8} (hi : M[i]? = some (.arr g T (bv l))) (hd : l.length = d) (hr : RdB w a n c src) (hn : n ≤ d) :
    ∃ w', (Builtin.copy_ #[33, 33] 3 #[.slice (some ⟨g, 0, none⟩) d d, .slice a n c]).run Tryz.prog w = .ok (.int .i64 (n : Int)) w' ∧ St w0 X w' (M.set i (.arr g T (bv (src ++ l.drop n)))) := by
  have hl := hr.lenB
  have hinf : (Tryz.prog.info? 5).map (·.size) = some 1 := by kernel_rfl
  have hg := h.holds i _ hi
  have done : n = 0 → St w0 X w (M.set i (.arr g T (bv (src ++ l.drop n)))) := fun h0 => by
    subst h0
    have : src = [] := List.eq_nil_of_length_eq_zero hl
    subst this
    rw [List.nil_append, List.drop_zero]
    exact h.upd hi (Chg.refl _ _) hg (fun k hk => .inl hk)
  rcases hr.cells with h0 | ⟨b, o, rfl, hrg⟩
  · have h0' : n = 0 := by rw [← hl]; simpa [bv] using congrArg List.length h0
    refine ⟨w, ?_, done h0'⟩
    subst h0'
    exact run_copy_none w _ _ _ 5 _ _ _ _ _ _ bS hinf (by simp)
  · have hr' := run_copy_row (P := Tryz.prog) w 33 33 3 5 g 0 d d ⟨b, o, none⟩ n c (bv l).toArray T (bv src) bS hinf hg (by rw [bv_length, hl]; exact (Nat.min_eq_left hn).symm) (fun j v hj => by rw [Addr.add_mid]; exact hrg j v hj) (by simp; omega) (bv_one _)
    have e : ((bv l).toArray.toList.take 0 ++ bv src ++ (bv l).toArray.toList.drop (0 + (bv src).length)).toArray = (bv (src ++ l.drop n)).toArray := by
      simp [bv_drop, hl]
    rw [e] at hr'
    refine ⟨_, by rw [hr', bv_length, hl]; rfl, h.upd hi (w' := w.setRow g _) ⟨rfl, rfl, rfl, by simp, fun k _ hk => setRow_other w g k _ (fun e => hk (by simp [Res.fp, e]))⟩ (setRow_heap w g _ _ T _ hg) (by simp [Res.fp])⟩

theorem xorc_val (b c : UInt8) : bxor .u8 (b.toNat : Int) (c.toNat : Int) = ((b ^^^ c).toNat : Int) := by
  rw [bxor_nat rfl (by have := b.toNat_lt; simpa [kmod, IntKind.bits] using this) (by have := c.toNat_lt; simpa [kmod, IntKind.bits] using this), UInt8.toNat_xor]

/-- The cells of a Keyed. -/
def kdL (g : Nat) (o : List UInt8) : List Value := .pointer (some ⟨g, 0, none⟩) :: bv o

/-- A Keyed that has taken a message, in memory. -/
def ipad (key : List UInt8) : List UInt8 := (macK key).map (· ^^^ 0x36)
def opad (key : List UInt8) : List UInt8 := (macK key).map (· ^^^ 0x5c)
theorem ipad_len (key : List UInt8) : (ipad key).length = 64 := by rw [ipad, List.length_map]; exact macK_len key
theorem opad_len (key : List UInt8) : (opad key).length = 64 := by rw [opad, List.length_map]; exact macK_len key
def kM (gk g : Nat) (key m : List UInt8) (a : Option Addr) (c : Nat) : List Res := .arr gk 260 (kdL g (opad key)) :: hM g 271 (ipad key ++ m) a c
theorem macF_pads (key m : List UInt8) : macF key m = shaF (opad key ++ shaF (ipad key ++ m)) := rfl

theorem built_keyed : Tryz.prog.built 260 = fun parts => Instr.fill (fun i => (#[(0, 1), (1, 64)] : Array (Nat × Nat))[i]?) (.pointer none :: bv (List.replicate 64 0)).toArray parts := by kernel_rfl
theorem keyed_build (g : Nat) (w : World) : (Instr.build 260 #[(0, .pointer (some ⟨g, 0, none⟩))]).run Tryz.prog w = .ok (.agg (kdL g (List.replicate 64 0)).toArray) w := by
  apply run_build
  rw [built_keyed]
  show Instr.fill _ _ [(0, .pointer (some ⟨g, 0, none⟩))] = _
  rw [fill_step (off := 0) (sz := 1) rfl (by simp [Value.cells]) (by simp)]
  simp [Instr.fill, Value.cells, kdL]

theorem pA (w : World) : (isAgg 257).run Tryz.prog w = .ok false w := Tryz.isAgg257 w

theorem kWrite_spec {w0 w : World} {X : List Nat} {M : List Res} (gk g : Nat) (key m : List UInt8) (a : Option Addr) (c : Nat) (a1 : Option Addr) (n1 c1 : Nat) (vs : List Value) (ls : List (List UInt8)) (hK : KTab w0) (hX : 5 ∉ X) (hS : St w0 X w (M ++ kM gk g key m a c))
    (hp : PartsK (fpsL (hM g 271 (ipad key ++ m) a c)) w a1 n1 c1 vs ls) (hb : m.length + ls.flatten.length ≤ 140737488340000) (hn : n1 ≤ 4611686018427387904) :
    Calls Tryz.prog 142 #[.pointer (some ⟨gk, 0, none⟩), .slice a1 n1 c1] w fun e w' => e = .returned (.tuple #[]) ∧ ∃ a' c', St w0 X w' (M ++ kM gk g key (m ++ ls.flatten) a' c') ∧ Chg (fpsL (hM g 271 (ipad key ++ m) a c)) w w' := by
  have hS' : St w0 X w ((M ++ [.arr gk 260 (kdL g (opad key))]) ++ hM g 271 (ipad key ++ m) a c) := by rw [List.append_assoc]; exact hS
  have hN := hS.sub (List.sublist_append_right M _)
  have hip := ipad_len key
  apply sha_Keyed_Write_vc
  refine ⟨g, 0, hN.ldL (i := 0) (o := 0) rfl (pA _) rfl rfl, (hWrite_spec g _ (ipad key ++ m) a c a1 n1 c1 vs ls hK hX hS' hp (by rw [List.length_append, hip]; omega) hn).mono ?_⟩
  rintro e w' ⟨rfl, a', c', h', hc'⟩
  refine ⟨rfl, rfl, a', c', ?_, hc'⟩
  rw [List.append_assoc, List.append_assoc] at h'
  exact h'

theorem kWrite_nil (a1 : Option Addr) (n1 c1 : Nat) (w : World) : Calls Tryz.prog 142 #[.pointer none, .slice a1 n1 c1] w fun e w' => e = .returned (.tuple #[]) ∧ w' = w := by
  apply sha_Keyed_Write_vc_nil
  exact ⟨rfl, rfl⟩
/-- A part of an array of cells, to be read as bytes. -/
theorem Sx.St.rdAt1 {w0 w : World} {X : List Nat} {M : List Res} (h : St w0 X w M) {i g T : Nat} {v : Value} {l : List UInt8} (hi : M[i]? = some (.arr g T (v :: bv l))) : RdB w (some ⟨g, 1, none⟩) l.length l.length l :=
  ⟨.inr ⟨g, 1, rfl, fun j u hj => by
    have := h.cellsA hi (j + 1) u (by simpa using hj)
    rw [show 1 + j = 0 + (j + 1) by omega]; exact this⟩, by simp, Nat.le_refl _, by simp⟩

theorem rdB_nil0 (w : World) : RdB w none 0 0 [] := ⟨Cells.nil _ _, rfl, Nat.le_refl _, fun _ => rfl⟩

theorem row2_one {w : World} {a : Option Addr} {n c : Nat} {l : List UInt8} (h : RdB w a n c l) : Row2 w [.slice a n c] [l] := by
  refine ⟨rfl, fun i hi => ?_⟩
  have : i = 0 := by simpa using hi
  subst this
  exact ⟨a, n, c, rfl, h⟩
theorem row2_two {w : World} {a : Option Addr} {n c : Nat} {l : List UInt8} {a2 : Option Addr} {n2 c2 : Nat} {l2 : List UInt8} (h : RdB w a n c l) (h2 : RdB w a2 n2 c2 l2) : Row2 w [.slice a n c, .slice a2 n2 c2] [l, l2] := by
  refine ⟨rfl, fun i hi => ?_⟩
  rcases i with _ | _ | i
  · exact ⟨a, n, c, rfl, h⟩
  · exact ⟨a2, n2, c2, rfl, h2⟩
  · simp only [List.length_cons, List.length_nil] at hi; omega

theorem kSum_spec {w0 w : World} {X : List Nat} {M : List Res} (gk g : Nat) (key m : List UInt8) (a : Option Addr) (c : Nat) (hK : KTab w) (hS : St w0 X w (M ++ kM gk g key m a c)) (hb : m.length ≤ 70368744170000) :
    Calls Tryz.prog 143 #[.pointer (some ⟨gk, 0, none⟩)] w fun e w' => e = .returned (.agg (bv (macF key m)).toArray) ∧ Chg [] w w' := by
  have hN := (hS.sub (List.sublist_append_right M _)).self
  have hip := ipad_len key
  apply sha_Keyed_Sum_vc
  obtain ⟨g1, w1, r1, h1⟩ := (St.start w).zeroA d32Z
  have hN1 := hN.same h1.chg
  have hK1 := hK.keep0 h1.chg
  refine ⟨_, _, r1, g, 0, hN1.ldL (i := 0) (o := 0) rfl (pA _) rfl rfl, (hSum_spec (M := [_]) g _ _ a c hK1 hN1 (by rw [List.length_append, hip]; omega)).mono ?_⟩
  rintro e w2 ⟨rfl, hc2⟩
  have h2 := h1.same hc2
  obtain ⟨g3, w3, r3, h3⟩ := h2.zeroA d32Z
  obtain ⟨w4, r4, h4⟩ := h3.stA (i := 1) (v := bv (shaF (ipad key ++ m))) rfl (d32S _) (by simp) (by simp) (bv_one _)
  have h4d := h4.drew
  have hop := opad_len key
  obtain ⟨g5, w5, r5, h5⟩ := h4d.lit bbT [.slice (some ⟨gk, 1, none⟩) 64 64, .slice (some ⟨g3, 0, none⟩) 32 32] (by simp [Value.oneCell']) (by simp)
  have hN5 := hN.same h5.chg
  have q1 := hN5.rdAt1 (i := 0) rfl
  rw [hop] at q1
  have q2 : RdB w5 (some ⟨g3, 0, none⟩) 32 32 (shaF (ipad key ++ m)) := h5.rdA (i := 1) rfl (by simp)
  refine ⟨_, rfl, g3, w3, r3, w4, r4, by omega, by omega, by omega, by omega, _, _, _, _, r5, (shaSum_spec _ 2 2 _ [opad key, shaF (ipad key ++ m)] w5 (hK.keep0 h5.chg) (h5.rd (i := 2) rfl) (row2_two q1 q2) (by simp [hop]) (by decide)).mono ?_⟩
  rintro e w6 ⟨rfl, hc6⟩
  have hm : shaF [opad key, shaF (ipad key ++ m)].flatten = macF key m := by rw [macF_pads]; simp
  rw [hm]
  have h6 := h5.same hc6
  obtain ⟨w7, r7, h7⟩ := h6.stA (i := 0) (v := bv (macF key m)) rfl (d32S _) (by simp) (by simp) (bv_one _)
  exact ⟨_, rfl, w7, r7, _, h7.ldVarA (i := 0) (l := bv (macF key m)) rfl (d32A _) (d32S _) (by simp), rfl, h7.chg⟩

theorem newMac_spec (a : Option Addr) (n c : Nat) (key : List UInt8) (w : World) (hK : KTab w) (hr : RdB w a n c key) (hb : n ≤ 70368744170000) :
    Calls Tryz.prog 141 #[.slice a n c] w fun e w' => ∃ gk g a' c', e = .returned (.pointer (some ⟨gk, 0, none⟩)) ∧ St w [] w' (kM gk g key [] a' c') := by
  have hl := hr.lenB
  have hle := hr.le
  apply sha_NewMac_vc
  obtain ⟨g1, w1, r1, h1⟩ := (St.start w).zeroA o64Z
  refine ⟨_, _, r1, fun w' => St w [] w' [.arr g1 207 (bv (macK key))], ⟨fun h => ?_, fun h => ?_⟩, ?_⟩
  · have hn : 64 < key.length := by simp at h; omega
    obtain ⟨g2, w2, r2, h2⟩ := h1.lit bbT [.slice a n c] (by simp [Value.oneCell']) (by simp)
    refine ⟨_, _, _, _, r2, (shaSum_spec _ 1 1 _ [key] w2 (hK.keep0 h2.chg) (h2.rd (i := 1) rfl) (row2_one (h2.rd1 hr)) (by simp; omega) (by decide)).mono ?_⟩
    rintro e w3 ⟨rfl, hc3⟩
    have hk1 : shaF [key].flatten = shaF key := by simp
    rw [hk1]
    have h3 := h2.same hc3
    obtain ⟨g4, w4, r4, h4⟩ := h3.zeroA d32Z
    obtain ⟨w5, r5, h5⟩ := h4.stA (i := 2) (v := bv (shaF key)) rfl (d32S _) (by simp) (by simp) (bv_one _)
    have h5d := h5.drew
    obtain ⟨w6, r6, h6⟩ := h5d.copyB (i := 0) (d := 64) (n := 32) (c := 32) (a := some ⟨g4, 0, none⟩) (src := shaF key) rfl (by simp) (h5d.rdA (i := 2) rfl (by simp)) (by omega)
    refine ⟨_, rfl, g4, w4, r4, w5, r5, by omega, by omega, by omega, by omega, _, w6, r6, ?_⟩
    have hmk : macK key = shaF key ++ (List.replicate 64 0).drop 32 := by
      simp only [macK, if_pos hn, shaF_len]
      rfl
    rw [hmk]
    exact h6.sub (List.Sublist.cons_cons _ (List.nil_sublist _))
  · have hn : ¬ 64 < key.length := by simp at h; omega
    obtain ⟨w6, r6, h6⟩ := h1.copyB (i := 0) (d := 64) (n := n) (c := c) (a := a) (src := key) rfl (by simp) (h1.rd1 hr) (by omega)
    refine ⟨by omega, by omega, _, w6, r6, ?_⟩
    have hmk : macK key = key ++ (List.replicate 64 0).drop n := by
      simp only [macK, if_neg hn]
      rw [List.drop_replicate, hl]
    rw [hmk]
    exact h6
  rintro w8 h8
  obtain ⟨K, hKk⟩ : ∃ K, macK key = K := ⟨_, rfl⟩
  have hKl : K.length = 64 := by rw [← hKk]; exact macK_len key
  rw [hKk] at h8
  refine (shaNew_spec w8).mono ?_
  rintro e w9 ⟨g, rfl, hN9⟩
  have h9 : St w [] w9 ([.arr g1 207 (bv K)] ++ hM g 271 [] none 0) := by
    refine St.callPart (N := []) (w := w8) (by simpa using h8) ?_
    simpa [fpsL] using hN9
  obtain ⟨gk, w10, r10, h10⟩ := h9.boxA (P := Tryz.prog) 260 (kdL g (List.replicate 64 0))
  refine ⟨_, _, rfl, _, keyed_build g w9, gk, w10, r10, _, h10.ldA (i := 0) (l := bv K) rfl (o64A _) (o64S _) (by simp [hKl]), ?_⟩
  refine ⟨fun x w' => ∃ i : Nat, x = (i : Int) ∧ i ≤ 64 ∧ St w [] w' ([.arr g1 207 (bv (mixG (K.map (· ^^^ 0x36)) K i))] ++ hM g 271 [] none 0 ++ [.arr gk 260 (kdL g (mixG (K.map (· ^^^ 0x5c)) (List.replicate 64 0) i))]), fun x _ => 64 - x.toNat,
    ⟨0, rfl, by omega, by rw [mixG_zero, mixG_zero]; exact h10⟩, ?_⟩
  rintro x w11 ⟨i, rfl, hi, h11⟩
  have hm1 : (mixG (K.map (· ^^^ 0x36)) K i).length = 64 := by rw [mixG_len (by simp) (by omega)]; exact hKl
  have hm2 : (mixG (K.map (· ^^^ 0x5c)) (List.replicate 64 (0 : UInt8)) i).length = 64 := by rw [mixG_len (by simp [hKl]) (by simp; omega)]; simp
  refine ⟨fun h => ?_, fun h => ?_⟩
  · have hi' : i < 64 := by simp at h; omega
    have hb5 : (K.map (· ^^^ 0x5c))[i]? = some (K.getD i 0 ^^^ 0x5c) := by simp [List.getD, show i < K.length by omega]
    have hb3 : (K.map (· ^^^ 0x36))[i]? = some (K.getD i 0 ^^^ 0x36) := by simp [List.getD, show i < K.length by omega]
    have x5 : bxor .u8 ((K.getD i 0).toNat : Int) 92 = ((K.getD i 0 ^^^ 0x5c).toNat : Int) := xorc_val _ 0x5c
    have x3 : bxor .u8 ((K.getD i 0).toNat : Int) 54 = ((K.getD i 0 ^^^ 0x36).toNat : Int) := xorc_val _ 0x36
    obtain ⟨w12, r12, h12⟩ := h11.stL (i := 3) (o := 1 + i) (off := 1 + Int.toNat (i : Int) * 1) (v := .int .u8 ((K.getD i 0 ^^^ 0x5c).toNat : Int)) rfl (sB1 _) (by omega) (by rw [kdL, List.length_cons, bv_length, hm2]; omega) rfl
    have hset : (kdL g (mixG (K.map (· ^^^ 0x5c)) (List.replicate 64 0) i)).set (1 + i) (.int .u8 ((K.getD i 0 ^^^ 0x5c).toNat : Int)) = kdL g (mixG (K.map (· ^^^ 0x5c)) (List.replicate 64 0) (i + 1)) := by
      rw [kdL, Nat.add_comm 1 i, List.set_cons_succ, bv_set, mixG_set (by simp [hKl]) hb5]; rfl
    rw [hset] at h12
    have h12' : St w [] w12 ([.arr g1 207 (bv (mixG (K.map (· ^^^ 0x36)) K i))] ++ hM g 271 [] none 0 ++ [.arr gk 260 (kdL g (mixG (K.map (· ^^^ 0x5c)) (List.replicate 64 0) (i + 1)))]) := h12
    obtain ⟨w13, r13, h13⟩ := h12'.stB (i := 0) (o := i) (off := 0 + Int.toNat (i : Int) * 1) (b := K.getD i 0 ^^^ 0x36) rfl (sB1 _) (by omega) (by omega)
    rw [mixG_set (by simp) hb3] at h13
    refine ⟨_, ixArr (cs := bv K) Tryz.underlying207 (sB1 _) (bA _) hi' (bv_getD (by omega)), by omega, by omega, w12, by rw [x5]; exact r12, by omega, by omega, w13, by rw [x3]; exact r13, ⟨i + 1, wrap_succ hi' (by omega), by omega, h13⟩, mu_succ hi' (by omega)⟩
  · have hi' : i = 64 := by simp at h; omega
    have f1 : mixG (K.map (· ^^^ 0x36)) K i = ipad key := by
      have := mixG_all (x := K.map (· ^^^ 0x36)) (l := K) (by simp)
      rw [hKl] at this; rw [hi', this, ipad, hKk]
    have f2 : mixG (K.map (· ^^^ 0x5c)) (List.replicate 64 (0 : UInt8)) i = opad key := by
      have := mixG_all (x := K.map (· ^^^ 0x5c)) (l := List.replicate 64 (0 : UInt8)) (by simp [hKl])
      rw [List.length_replicate] at this; rw [hi', this, opad, hKk]
    rw [f1, f2] at h11
    clear f1 f2 hm1 hm2 h hi hi'
    have hip := ipad_len key
    obtain ⟨g14, w14, r14, h14⟩ := h11.lit bbT [.slice (some ⟨g1, 0, none⟩) 64 64] (by simp [Value.oneCell']) (by simp)
    have hP : List.Perm ([Res.arr g1 207 (bv (ipad key))] ++ hM g 271 [] none 0 ++ [Res.arr gk 260 (kdL g (opad key))] ++ [Res.row 33 1 (.slice (some ⟨g14, 0, none⟩) 1 1) 1 [.slice (some ⟨g1, 0, none⟩) 64 64]])
        (([Res.row 33 1 (.slice (some ⟨g14, 0, none⟩) 1 1) 1 [.slice (some ⟨g1, 0, none⟩) 64 64], Res.arr g1 207 (bv (ipad key))] ++ [Res.arr gk 260 (kdL g (opad key))]) ++ hM g 271 [] none 0) := by
      refine List.perm_append_comm.trans ?_
      refine List.Perm.cons _ ?_
      refine List.Perm.cons _ ?_
      exact List.perm_append_comm
    have h14' := h14.perm hP
    have hkp : ∀ w', Chg (fpsL (hM g 271 [] none 0)) w14 w' → Rd w' (some ⟨g14, 0, none⟩) 1 1 1 [.slice (some ⟨g1, 0, none⟩) 64 64] ∧ RdB w' (some ⟨g1, 0, none⟩) 64 64 (ipad key) := fun w' hc => by
      have q1 : Res.holds w' (Res.row 33 1 (.slice (some ⟨g14, 0, none⟩) 1 1) 1 [.slice (some ⟨g1, 0, none⟩) 64 64]) := h14'.keptPart (by simp) hc
      have q2 : Res.holds w' (Res.arr g1 207 (bv (ipad key))) := h14'.keptPart (by simp) hc
      exact ⟨ownsRow_rd q1, (St.ofBlk (o := .cells (bv (ipad key)).toArray 207) q2).rdA (i := 0) rfl (by simp [hip])⟩
    -- the inner pad is the first that is written
    refine ⟨by omega, by omega, _, _, _, _, r14, ?_⟩
    apply sha_Keyed_Write_vc
    have hNk := h14'.sub (List.sublist_append_left _ _)
    refine ⟨g, 0, hNk.ldL (i := 2) (o := 0) rfl (pA _) rfl rfl, (hWrite_spec g _ [] none 0 _ 1 1 _ [ipad key] hK (by simp) h14' ⟨fun w' hc => (hkp w' hc).1, fun w' hc => row2_one (hkp w' hc).2⟩ (by simp [hip]) (by decide)).mono ?_⟩
    rintro e w15 ⟨rfl, a15, c15, h15, _⟩
    have e1 : [] ++ [ipad key].flatten = ipad key ++ [] := by simp
    rw [e1, List.append_assoc] at h15
    exact ⟨rfl, rfl, gk, g, a15, c15, rfl, h15.sub (List.sublist_append_right _ _)⟩

theorem mac_spec (a : Option Addr) (n c : Nat) (key : List UInt8) (a1 : Option Addr) (n1 c1 : Nat) (vs : List Value) (ls : List (List UInt8)) (w : World) (hK : KTab w) (hr : RdB w a n c key) (hb : n ≤ 70368744170000) (hr1 : Rd w a1 n1 c1 1 vs) (h2 : Row2 w vs ls) (hb1 : ls.flatten.length ≤ 70368744170000) (hn1 : n1 ≤ 4611686018427387904) :
    Calls Tryz.prog 120 #[.slice a n c, .slice a1 n1 c1] w fun e w' => e = .returned (.agg (bv (macF key ls.flatten)).toArray) ∧ Chg [] w w' := by
  apply sha_Mac_vc
  obtain ⟨g1, w1, r1, h1⟩ := (St.start w).zeroA d32Z
  refine ⟨_, _, r1, (newMac_spec a n c key w1 (hK.keep0 h1.chg) (h1.rd1 hr) hb).mono ?_⟩
  rintro e w2 ⟨gk, g, a2, c2, rfl, hN2⟩
  have h2' : St w [] w2 ([.arr g1 22 (bv (List.replicate 32 0))] ++ kM gk g key [] a2 c2) := by
    refine St.callPart (N := []) (w := w1) (by simpa using h1) ?_
    simpa [fpsL] using hN2
  have hNh : St w [] w2 (hM g 271 (ipad key ++ []) a2 c2) := h2'.sub ((List.sublist_append_right [_, _] _))
  refine ⟨gk, 0, rfl, (kWrite_spec gk g key [] a2 c2 a1 n1 c1 vs ls hK (by simp) h2' (partsK_old hNh hr1 h2) (by simp only [List.length_nil]; omega) hn1).mono ?_⟩
  rintro e w3 ⟨rfl, a3, c3, h3, _⟩
  rw [List.nil_append] at h3
  refine ⟨rfl, (kSum_spec gk g key _ a3 c3 (hK.keep0 h3.chg) h3 hb1).mono ?_⟩
  rintro e w4 ⟨rfl, hc4⟩
  have h4 := h3.same hc4
  obtain ⟨w5, r5, h5⟩ := h4.stA (i := 0) (v := bv (macF key ls.flatten)) rfl (d32S _) (by simp) (by simp) (bv_one _)
  exact ⟨_, rfl, w5, r5, _, h5.ldVarA (i := 0) (l := bv (macF key ls.flatten)) rfl (d32A _) (d32S _) (by simp), rfl, h5.chg⟩

open Go Sx
set_option maxRecDepth 8000

theorem turn_spec (x n : Nat) (w : World) (hx : x < 4294967296) (hn : n < 32) (h0 : 0 < n) : Calls Tryz.prog 147 #[.int .u32 (x : Int), .int .u64 (n : Int)] w fun e w' => e = .returned (.int .u32 ((rotr x n : Nat) : Int)) ∧ w' = w := by
  apply amphoraref02_turn_vc
  have h2 : IntKind.wrap .u64 ((32 : Int) - (n : Int)) = ((32 - n : Nat) : Int) := by rw [wrap_u64]; omega
  rw [h2]
  refine ⟨by omega, by omega, ?_, rfl⟩
  rw [shl_val (show 32 - n ≤ 32 by omega), shr_val _ _ (by omega), or_val (shr_lt _ hx) (Nat.mod_lt _ (by decide)), Nat.or_comm]
  rfl

theorem filled_spec (a : Option Addr) (k c : Nat) (m : List UInt8) (w : World) (hr : RdB w a k c m) (hb : k ≤ 70368744177664) :
    Calls Tryz.prog 146 #[.slice a k c] w fun e w' => ∃ a' n' c', e = .returned (.slice a' n' c') ∧ FreshB w w' a' n' c' (m ++ padL m.length) := by
  have hl := hr.lenB
  subst hl
  obtain ⟨n, hn⟩ : ∃ n, m.length = n := ⟨_, rfl⟩
  rw [hn] at hr hb ⊢
  apply amphoraref02_filled_vc
  obtain ⟨g1, w1, r1, h1⟩ := (St.start w).lit bT [] (by simp) (by simp)
  obtain ⟨va, vc, w2, r2, h2⟩ := h1.appendB (i := 0) (xs := []) rfl (h1.rd1 hr) (by simp; omega)
  simp only [List.length_nil, Nat.zero_add, List.nil_append] at r2 h2
  obtain ⟨g3, w3, vb, vd, w4, r3, r4, h4, _⟩ := h2.push1 (i := 0) (n := n) (pre := m) rfl (by omega) 128 (by decide)
  refine ⟨_, _, _, _, r1, _, _, _, _, r2, _, _, _, _, r3, _, _, _, _, r4, ?_⟩
  have hzl := zerosN_lt n
  refine ⟨fun xa xn xc w' => ∃ z : Nat, z ≤ zerosN n ∧ xn = n + 1 + z ∧ St w [] w' [.row 5 1 (.slice xa xn xc) xn (bv (m ++ (0x80 :: List.replicate z 0)))], fun _ xn _ _ => n + 1 + zerosN n - xn, ⟨0, by omega, rfl, h4⟩, ?_⟩
  rintro xa xn xc w5 ⟨z, hz, rfl, h5⟩
  refine ⟨fun h => ?_, fun h => ?_⟩
  · rw [Int.tmod_eq_emod_of_nonneg (by omega)] at h
    have hne : (n + 1 + z) % 64 ≠ 56 := by simp at h; omega
    have hz' : z < zerosN n := by
      rcases Nat.lt_or_ge z (zerosN n) with h1 | h1
      · exact h1
      · have : z = zerosN n := by omega
        rw [this] at hne
        simp only [zerosN] at hne
        omega
    obtain ⟨g6, w6, vb, vd, w7, r6, r7, h7, _⟩ := h5.push1 (i := 0) (n := n + 1 + z) rfl (by omega) 0 (by decide)
    refine ⟨_, _, _, _, r6, _, _, _, _, r7, ⟨z + 1, by omega, by omega, ?_⟩, (by show n + 1 + zerosN n - (n + 1 + z + 1) < n + 1 + zerosN n - (n + 1 + z); omega)⟩
    have : m ++ (0x80 :: List.replicate z 0) ++ [UInt8.ofNat 0] = m ++ ((0x80 : UInt8) :: List.replicate (z + 1) 0) := by
      rw [List.replicate_succ']; simp
    rw [← this]
    exact h7
  · rw [Int.tmod_eq_emod_of_nonneg (by omega)] at h
    have he : (n + 1 + z) % 64 = 56 := by simp at h; omega
    have hz' : z = zerosN n := by
      simp only [zerosN] at hz ⊢
      omega
    subst hz'
    refine ⟨fun xa xn xc x w' => ∃ j : Nat, x = (j : Int) ∧ j ≤ 8 ∧ xn = n + 1 + zerosN n + j ∧ St w [] w' [.row 5 1 (.slice xa xn xc) xn (bv (m ++ (0x80 :: (List.replicate (zerosN n) 0 ++ (List.range j).map (lenB n)))))], fun _ _ _ x _ => 8 - x.toNat, ⟨0, rfl, by omega, rfl, by simpa using h5⟩, ?_⟩
    rintro ya yn yc y w8 ⟨j, rfl, hj, rfl, h8⟩
    refine ⟨fun h => ?_, fun h => ?_⟩
    · have hj' : j < 8 := by simp at h; omega
      have e1 : IntKind.wrap .u64 ((56 : Int) - IntKind.wrap .u64 (8 * IntKind.wrap .u64 (j : Int))) = ((56 - 8 * j : Nat) : Int) := by
        simp only [wrap_u64]; omega
      rw [e1, lenB_val n j hj']
      obtain ⟨g9, w9, vb, vd, w10, r9, r10, h10, _⟩ := h8.push1 (i := 0) (n := n + 1 + zerosN n + j) rfl (by omega) (lenB n j).toNat (lenB n j).toNat_lt
      refine ⟨by omega, _, _, _, _, r9, _, _, _, _, r10, ⟨j + 1, wrap_succ hj' (by omega), by omega, by omega, ?_⟩, mu_succ hj' (by omega)⟩
      have : m ++ (0x80 :: (List.replicate (zerosN n) 0 ++ (List.range j).map (lenB n))) ++ [UInt8.ofNat (lenB n j).toNat] = m ++ ((0x80 : UInt8) :: (List.replicate (zerosN n) 0 ++ (List.range (j + 1)).map (lenB n))) := by
        rw [List.range_succ, List.map_append]; simp
      rw [← this]
      exact h10
    · have hj' : j = 8 := by simp at h; omega
      subst hj'
      exact ⟨_, _, _, rfl, St.freshB (l := m ++ padL n) h8 (i := 0) rfl⟩

/-- A word out of its first bytes. -/
def p4 (l : List UInt8) (o : Nat) : Nat → Nat
  | 0 => 0
  | j + 1 => p4 l o j * 256 + (l.getD (o + j) 0).toNat
theorem p4_lt (l : List UInt8) (o : Nat) : ∀ j, p4 l o j < 256 ^ j
  | 0 => by simp [p4]
  | j + 1 => by
    have := p4_lt l o j
    have hb := (l.getD (o + j) 0).toNat_lt
    rw [p4, Nat.pow_succ]; omega
theorem p4_be4 (l : List UInt8) (o : Nat) : p4 l o 4 = be4 l o := by simp [p4, be4]

theorem schedK_tail (b : List UInt8) : ∀ (k i : Nat), k ≤ i → i < 64 → (schedK b k)[i]? = some 0
  | 0, i, _, h => by rw [schedK, List.getElem?_replicate, if_pos h]
  | k + 1, i, hk, h => by rw [schedK, List.getElem?_set_ne (by omega)]; exact schedK_tail b k i (by omega) h

/-- A list of eight that is shifted from the end. -/
def shF (v : List Nat) (j : Nat) : List Nat := v.take (j + 1) ++ (v.drop j).take (7 - j)

theorem shF_7 {v : List Nat} (h : v.length = 8) : shF v 7 = v := by
  match v, h with
  | [_, _, _, _, _, _, _, _], _ => rfl
theorem shF_len {v : List Nat} (h : v.length = 8) {j : Nat} (hj : j ≤ 7) : (shF v j).length = 8 := by simp [shF]; omega
theorem shF_step {v : List Nat} (h : v.length = 8) {j : Nat} (h0 : 0 < j) (hj : j ≤ 7) : (shF v j).getD (j - 1) 0 = v.getD (j - 1) 0 ∧ (shF v j).set j (v.getD (j - 1) 0) = shF v (j - 1) := by
  match v, h with
  | [_, _, _, _, _, _, _, _], _ =>
    rcases j with _ | _ | _ | _ | _ | _ | _ | _ | j
    · omega
    · exact ⟨rfl, rfl⟩
    · exact ⟨rfl, rfl⟩
    · exact ⟨rfl, rfl⟩
    · exact ⟨rfl, rfl⟩
    · exact ⟨rfl, rfl⟩
    · exact ⟨rfl, rfl⟩
    · exact ⟨rfl, rfl⟩
    · omega
theorem shF_end {v : List Nat} (h : v.length = 8) (x y : Nat) : (shF v 0).getD 4 0 = v.getD 3 0 ∧ ((shF v 0).set 4 x).set 0 y = [y, v.getD 0 0, v.getD 1 0, v.getD 2 0, x, v.getD 4 0, v.getD 5 0, v.getD 6 0] := by
  match v, h with
  | [_, _, _, _, _, _, _, _], _ => exact ⟨rfl, rfl⟩

theorem getD_dt (l : List UInt8) (o i : Nat) (h : i < 64) : ((l.drop o).take 64).getD i 0 = l.getD (o + i) 0 := by
  simp only [List.getD, List.getElem?_take, List.getElem?_drop, if_pos h]

theorem rsum_spec (a : Option Addr) (n c : Nat) (vs : List Value) (ls : List (List UInt8)) (w : World) (hr : Rd w a n c 1 vs) (h2 : Row2 w vs ls) (hb : ls.flatten.length ≤ 70368744177664) (hn : n ≤ 4611686018427387904) :
    Calls Tryz.prog 124 #[.slice a n c] w fun e w' => e = .returned (.agg (bv (shaF ls.flatten)).toArray) ∧ Chg [] w w' := by
  have hln : ls.length = n := by have := hr.len; have := h2.len; omega
  have sB : ∀ w, (sizeOf 5).run Tryz.prog w = .ok 1 w := fun w => Tryz.sizeOf5 w
  have ze : ∀ k : Nat, 0 + Int.toNat (k : Int) * 1 = k := fun k => by omega
  apply amphoraref02_Sum_vc
  obtain ⟨g2, w1, r1, h1⟩ := (St.start w).zeroA d32Z
  have hbk : (Instr.build 232 (((kv .u32 kTab).zipIdx 0).map fun p => (p.2, p.1)).toArray).run Tryz.prog w1 = .ok (.agg (kv .u32 kTab).toArray) w1 := by
    have := build_arr (P := Tryz.prog) (w := w1) (w64Z w1) Tryz.underlying232 (uS _) (kv .u32 kTab) (kv_one _ _) (by simp [kTab_len])
    rwa [List.drop_of_length_le (by simp [kTab_len]), List.append_nil] at this
  obtain ⟨g3, w2, r2, h2'⟩ := h1.zeroA w64Z
  obtain ⟨w3, r3, h3⟩ := h2'.stA (i := 1) (v := kv .u32 kTab) rfl (w64S _) (by simp) (by simp [kTab_len]) (kv_one _ _)
  refine ⟨_, _, r1, _, hbk, g3, w2, r2, w3, r3, ?_⟩
  have h3' : St w [] w3 ([.arr g2 22 (bv (List.replicate 32 0)), .arr g3 232 (kv .u32 kTab)] ++ [.row 5 1 (.slice none 0 0) 0 (bv [])]) := h3.addNil _ _
  refine ⟨fun xa xn xc x w' => ∃ i : Nat, x = (i : Int) ∧ i ≤ n ∧ xn = (ls.take i).flatten.length ∧ St w [] w' ([.arr g2 22 (bv (List.replicate 32 0)), .arr g3 232 (kv .u32 kTab)] ++ [.row 5 1 (.slice xa xn xc) xn (bv (ls.take i).flatten)]), fun _ _ _ x _ => n - x.toNat, ⟨0, rfl, by omega, by simp, by simpa using h3'⟩, ?_⟩
  rintro xa xn xc x w4 ⟨i, rfl, hi, rfl, h4⟩
  have hft := flat_take_le ls i
  refine ⟨fun h => ?_, fun h => ?_⟩
  · have hi' : i < n := by simp at h; omega
    obtain ⟨b, o, a', n', c', ha, hv, hrd, hld⟩ := ixS hr.cells h2 (i := i) (by omega)
    have hl' := hrd.lenB
    have hf1 := flat_take (ls := ls) (i := i) (by omega)
    have hf2 := flat_take_le ls (i + 1)
    have hf3 := congrArg List.length hf1
    rw [List.length_append, hl'] at hf3
    obtain ⟨va, vc, w5, r5, h5⟩ := h4.appendB (i := 2) rfl (h4.rd1 hrd) (by omega)
    refine ⟨b, o, ha, by omega, by omega, _, _, _, hld w4 (hr.cells.keep0 h4.chg), _, _, _, _, r5, ⟨i + 1, wrap_succ hi' hn, by omega, by omega, ?_⟩, mu_succ hi' hn⟩
    rw [hf1]; exact h5
  have hi' : i = n := by simp at h; omega
  have hta : ls.take i = ls := by rw [hi', ← hln, List.take_length]
  rw [hta] at h4 ⊢
  clear hi' hi hft h hta h3' h3 h2' h1 hbk
  obtain ⟨msg, hmsg⟩ : ∃ msg, ls.flatten = msg := ⟨_, rfl⟩
  rw [hmsg] at h4 hb ⊢
  refine (filled_spec _ _ _ msg w4 (h4.rd (i := 2) rfl) (by omega)).mono ?_
  rintro e w6 ⟨a6, n6, c6, rfl, hf6⟩
  have hn6 := hf6.2.1
  have h6 := hf6.add (h4.sub (List.sublist_append_left _ _))
  obtain ⟨L, hL⟩ : ∃ L, msg ++ padL msg.length = L := ⟨_, rfl⟩
  have hmod : n6 % 64 = 0 := by rw [← hn6, List.length_append]; exact padL_mod _
  have hLb : n6 ≤ 70368744177664 + 200 := by
    have := padL_len msg.length
    have := zerosN_lt msg.length
    rw [← hn6, List.length_append]; omega
  rw [hL] at h6 hn6
  have hsha : shaF msg = digL (blocksF (n6 / 64) h0L L) := by rw [shaF, hL, hOf, hn6]
  rw [hsha]
  clear hf6 hsha hL hmsg
  have hb0 : (Instr.build 233 (((kv .u32 h0L).zipIdx 0).map fun p => (p.2, p.1)).toArray).run Tryz.prog w6 = .ok (.agg (kv .u32 h0L).toArray) w6 := by
    have := build_arr (P := Tryz.prog) (w := w6) (w8Z w6) Tryz.underlying233 (uS _) (kv .u32 h0L) (kv_one _ _) (by simp [h0L])
    rwa [List.drop_of_length_le (by simp [h0L]), List.append_nil] at this
  obtain ⟨g6, w7, r7, h7⟩ := h6.zeroA w8Z
  obtain ⟨w8, r8, h8⟩ := h7.stA (i := 3) (v := kv .u32 h0L) rfl (w8S _) (by simp) (by simp [h0L]) (kv_one _ _)
  refine ⟨_, _, _, rfl, _, hb0, g6, w7, r7, w8, r8, ?_⟩
  obtain ⟨M0, hM0⟩ : ∃ M0 : List Res, M0 = [.arr g2 22 (bv (List.replicate 32 0)), .arr g3 232 (kv .u32 kTab), .row 5 1 (.slice a6 n6 c6) n6 (bv L)] := ⟨_, rfl⟩
  have h8' : St w [] w8 (M0 ++ [.arr g6 233 (kv .u32 h0L)]) := by rw [hM0]; exact h8
  clear h8 h7 h6 h4 r7 r8 hb0
  refine ⟨fun x w' => ∃ b : Nat, x = ((64 * b : Nat) : Int) ∧ 64 * b ≤ n6 ∧ St w [] w' (M0 ++ [.arr g6 233 (kv .u32 (blocksF b h0L L))]), fun x _ => n6 - x.toNat, ⟨0, rfl, by omega, h8'⟩, ?_⟩
  rintro x w9 ⟨b, rfl, hbn, h9⟩
  refine ⟨fun h => ?_, fun h => ?_⟩
  · have hbl : 64 * b + 64 ≤ n6 := by simp at h; omega
    clear h
    obtain ⟨H, hH⟩ : ∃ H, blocksF b h0L L = H := ⟨_, rfl⟩
    have hHl : H.length = 8 := by rw [← hH]; exact blocksF_len _ _ rfl
    have hHlt : Lt32 H := by rw [← hH]; exact blocksF_lt _ _ rfl h0L_lt
    obtain ⟨B, hB⟩ : ∃ B, (L.drop (64 * b)).take 64 = B := ⟨_, rfl⟩
    have hBg : ∀ i, i < 64 → B.getD i 0 = L.getD (64 * b + i) 0 := fun i hi => by rw [← hB]; exact getD_dt _ _ _ hi
    have hnext : blocksF (b + 1) h0L L = compress H B := by rw [blocksF_snoc, hH, hB]
    rw [hH] at h9
    have hz := build_arr (P := Tryz.prog) (w := w9) (w64Z w9) Tryz.underlying232 (uS _) [] (by simp) (by simp)
    simp only [List.nil_append, List.length_nil, List.drop_zero] at hz
    obtain ⟨g8, w10, r10, h10⟩ := h9.zeroA w64Z
    have i3 : ∀ (r s : Res), (M0 ++ [r] ++ [s])[3]? = some r := fun r s => by rw [hM0]; rfl
    have i4 : ∀ (r s : Res), (M0 ++ [r] ++ [s])[4]? = some s := fun r s => by rw [hM0]; rfl
    have s4 : ∀ (r s s' : Res), (M0 ++ [r] ++ [s]).set 4 s' = M0 ++ [r] ++ [s'] := fun r s s' => by rw [hM0]; rfl
    have i2 : ∀ (N : List Res), (M0 ++ N)[2]? = some (.row 5 1 (.slice a6 n6 c6) n6 (bv L)) := fun N => by rw [hM0]; rfl
    have i1 : ∀ (N : List Res), (M0 ++ N)[1]? = some (.arr g3 232 (kv .u32 kTab)) := fun N => by rw [hM0]; rfl
    obtain ⟨w11, r11, h11⟩ := h10.stA (v := kv .u32 (List.replicate 64 0)) (i4 _ _) (w64S _) (by simp) (by simp) (kv_one _ _)
    rw [s4] at h11
    refine ⟨_, hz, g8, w10, r10, w11, r11, fun x w' => ∃ t : Nat, x = (t : Int) ∧ t ≤ 64 ∧ St w [] w' (M0 ++ [.arr g6 233 (kv .u32 H)] ++ [.arr g8 232 (kv .u32 (schedK B t))]), fun x _ => 64 - x.toNat, ⟨0, rfl, by omega, h11⟩, ?_⟩
    rintro x w12 ⟨t, rfl, ht, h12⟩
    refine ⟨fun h => ?_, fun h => ?_⟩
    · have ht' : t < 64 := by simp at h; omega
      refine ⟨fun h => ?_, fun h => ?_⟩
      · have ht16 : t < 16 := by simp at h; omega
        have hself : (schedK B t).set t (p4 B (4 * t) 0) = schedK B t := by
          apply List.ext_getElem?
          intro q
          by_cases hq : t = q
          · subst hq
            rw [List.getElem?_set_self (by simp; omega), schedK_tail B t t (Nat.le_refl _) ht']; rfl
          · rw [List.getElem?_set_ne hq]
        refine ⟨fun x w' => ∃ j : Nat, x = (j : Int) ∧ j ≤ 4 ∧ St w [] w' (M0 ++ [.arr g6 233 (kv .u32 H)] ++ [.arr g8 232 (kv .u32 ((schedK B t).set t (p4 B (4 * t) j)))]), fun x _ => 4 - x.toNat, ⟨0, rfl, by omega, by rw [hself]; exact h12⟩, ?_⟩
        rintro x w13 ⟨j, rfl, hj, h13⟩
        refine ⟨fun h => ?_, fun h => ?_⟩
        · have hj' : j < 4 := by simp at h; omega
          have e1 : IntKind.wrap .i64 (IntKind.wrap .i64 (((64 * b : Nat) : Int) + IntKind.wrap .i64 (4 * (t : Int))) + (j : Int)) = ((64 * b + (4 * t + j) : Nat) : Int) := by
            rw [show IntKind.wrap .i64 (4 * (t : Int)) = ((4 * t : Nat) : Int) by rw [wrap_i64 (by omega) (by omega)]; omega, show IntKind.wrap .i64 (((64 * b : Nat) : Int) + ((4 * t : Nat) : Int)) = ((64 * b + 4 * t : Nat) : Int) by rw [wrap_i64 (by omega) (by omega)]; omega, wrap_i64 (by omega) (by omega)]; omega
          rw [e1]
          have hc13 : Cells w13 a6 (bv L) := h13.cells (by rw [List.append_assoc]; exact i2 _)
          have hpl := p4_lt B (4 * t) j
          have hp24 : p4 B (4 * t) j < 16777216 := by
            have : 256 ^ j ≤ 256 ^ 3 := Nat.pow_le_pow_right (by decide) (by omega)
            omega
          have hgt : ((schedK B t).set t (p4 B (4 * t) j)).getD t 0 = p4 B (4 * t) j := getD_set_self (by simp; omega)
          have hbyte := (L.getD (64 * b + (4 * t + j)) 0).toNat_lt
          have hval : bor .u32 (shlI .u32 ((p4 B (4 * t) j : Nat) : Int) 8) (IntKind.wrap .u32 ((L.getD (64 * b + (4 * t + j)) 0).toNat : Int)) = ((p4 B (4 * t) (j + 1) : Nat) : Int) := by
            rw [show (8 : Int) = ((8 : Nat) : Int) from rfl, shl_val (by decide), Nat.mod_eq_of_lt (by omega), wrap_u32_nat (by omega), or_val (by omega) (by omega), or_sum _ _ 8 (by omega), p4, hBg _ (by omega)]
          refine ⟨fun w' => St w [] w' (M0 ++ [.arr g6 233 (kv .u32 H)] ++ [.arr g8 232 (kv .u32 ((schedK B t).set t (p4 B (4 * t) j)))]), h13.drew, by omega, by omega, ix0 hc13 hn6 (64 * b + (4 * t + j)) (by omega) fun b1 o1 ha1 q1 => ?_⟩
          have h13d := h13.drew
          obtain ⟨w14, r14, h14⟩ := h13d.stK (n := p4 B (4 * t) (j + 1)) (i4 _ _) (uS _) (ze t) (by simp; omega)
          rw [s4, List.set_set] at h14
          refine ⟨b1, o1, ha1, by omega, by omega, _, fun w' h => h.ldK (i4 _ _) (uA _) (ze t) (by simp; omega), _, fun w' h => q1 w' (h.cells (by rw [List.append_assoc]; exact i2 _)), by omega, by omega, w14, ?_, ⟨j + 1, wrap_succ hj' (by omega), by omega, h14⟩, mu_succ hj' (by omega)⟩
          rw [hgt, hval]; exact r14
        · have hj' : j = 4 := by simp at h; omega
          subst hj'
          refine ⟨⟨t + 1, wrap_succ ht' (by omega), by omega, ?_⟩, mu_succ ht' (by omega)⟩
          have : schedK B (t + 1) = (schedK B t).set t (p4 B (4 * t) 4) := by rw [schedK, if_pos ht16, p4_be4]
          rw [this]; exact h13
      · have ht16 : 16 ≤ t := by simp at h; omega
        have e : ∀ j : Nat, j ≤ 16 → IntKind.wrap .i64 ((t : Int) - (j : Int)) = ((t - j : Nat) : Int) := fun j hj => by rw [wrap_i64 (by omega) (by omega)]; omega
        have e15 : IntKind.wrap .i64 ((t : Int) - 15) = ((t - 15 : Nat) : Int) := e 15 (by omega)
        have e2 : IntKind.wrap .i64 ((t : Int) - 2) = ((t - 2 : Nat) : Int) := e 2 (by omega)
        have e7 : IntKind.wrap .i64 ((t : Int) - 7) = ((t - 7 : Nat) : Int) := e 7 (by omega)
        have e16 : IntKind.wrap .i64 ((t : Int) - 16) = ((t - 16 : Nat) : Int) := e 16 (by omega)
        rw [e15, e2, e7, e16]
        obtain ⟨W, hW⟩ : ∃ W, schedK B t = W := ⟨_, rfl⟩
        have hWl : W.length = 64 := by rw [← hW]; exact schedK_len B t
        have hlt : Lt32 W := by rw [← hW]; exact schedK_lt B t
        have hnx : schedK B (t + 1) = W.set t (nextW W t) := by rw [schedK, if_neg (by omega), hW]
        rw [hW] at h12
        obtain ⟨Q, hQ⟩ : ∃ Q : World → Prop, Q = fun w' => St w [] w' (M0 ++ [.arr g6 233 (kv .u32 H)] ++ [.arr g8 232 (kv .u32 W)]) := ⟨_, rfl⟩
        have hQ12 : Q w12 := by rw [hQ]; exact h12
        have hd : ∀ w', Q w' → Q w'.drew := fun w' h => by rw [hQ] at h ⊢; exact h.drew
        have ld : ∀ j : Nat, j < 64 → ∀ w', Q w' → (Instr.loadAt 209 (.pointer (some ⟨g8, 0 + Int.toNat (j : Int) * 1, none⟩))).run Tryz.prog w' = .ok (.int .u32 ((W.getD j 0 : Nat) : Int)) w' := fun j hj w' h => by
          rw [hQ] at h; exact h.ldK (i4 _ _) (uA _) (ze j) (by omega)
        refine ⟨by omega, by omega, _, ld _ (by omega) _ hQ12, by omega, by omega, _, ld _ (by omega) _ hQ12, Q, hd _ hQ12, by omega, by omega, by omega, by omega, _, ld _ (by omega), _, ld _ (by omega), (turn_spec _ 17 _ (hlt _) (by decide) (by decide)).mono ?_⟩
        rintro e w15 ⟨rfl, rfl⟩
        refine ⟨_, rfl, Q, fun _ h => h, hd _ hQ12, (turn_spec _ 19 _ (hlt _) (by decide) (by decide)).mono ?_⟩
        rintro e w16 ⟨rfl, rfl⟩
        refine ⟨_, rfl, Q, fun _ h => h, hd _ hQ12, (turn_spec _ 7 _ (hlt _) (by decide) (by decide)).mono ?_⟩
        rintro e w17 ⟨rfl, rfl⟩
        refine ⟨_, rfl, Q, fun _ h => h, hd _ hQ12, (turn_spec _ 18 _ (hlt _) (by decide) (by decide)).mono ?_⟩
        rintro e w18 ⟨rfl, rfl⟩
        refine ⟨_, rfl, Q, fun _ h => h, hd _ hQ12, by omega, by omega, ?_⟩
        rw [sg0_val (hlt _), sg1_val (hlt _), add_val, add_val, add_val]
        have h9 := hd _ hQ12
        rw [hQ] at h9
        obtain ⟨w19, r19, h19⟩ := h9.stK (n := nextW W t) (i4 _ _) (uS _) (ze t) (by omega)
        rw [s4] at h19
        exact ⟨w19, r19, ⟨t + 1, wrap_succ ht' (by omega), by omega, by rw [hnx]; exact h19⟩, mu_succ ht' (by omega)⟩
    · have ht' : t = 64 := by simp at h; omega
      obtain ⟨W, hW⟩ : ∃ W, schedK B 64 = W := ⟨_, rfl⟩
      have hWt : schedK B t = W := by rw [ht', hW]
      have hWl : W.length = 64 := by rw [← hW]; exact schedK_len B 64
      have hWlt : Lt32 W := by rw [← hW]; exact schedK_lt B 64
      obtain ⟨V, hV⟩ : ∃ V, rounds W H 64 = V := ⟨_, rfl⟩
      have hcomp : compress H B = List.zipWith add32 H V := by rw [compress, hW, hV]
      rw [hWt] at h12
      clear hWt ht' ht h hW
      have i5 : ∀ (r s u : Res), (M0 ++ [r] ++ [s] ++ [u])[5]? = some u := fun r s u => by rw [hM0]; rfl
      have i4' : ∀ (r s u : Res), (M0 ++ [r] ++ [s] ++ [u])[4]? = some s := fun r s u => by rw [hM0]; rfl
      have i3' : ∀ (r s u : Res), (M0 ++ [r] ++ [s] ++ [u])[3]? = some r := fun r s u => by rw [hM0]; rfl
      have i1' : ∀ (r s u : Res), (M0 ++ [r] ++ [s] ++ [u])[1]? = some (.arr g3 232 (kv .u32 kTab)) := fun r s u => by rw [hM0]; rfl
      have s5 : ∀ (r s u u' : Res), (M0 ++ [r] ++ [s] ++ [u]).set 5 u' = M0 ++ [r] ++ [s] ++ [u'] := fun r s u u' => by rw [hM0]; rfl
      have s3' : ∀ (r r' s u : Res), (M0 ++ [r] ++ [s] ++ [u]).set 3 r' = M0 ++ [r'] ++ [s] ++ [u] := fun r r' s u => by rw [hM0]; rfl
      obtain ⟨g13, w20, r20, h20⟩ := h12.zeroA w8Z
      obtain ⟨w21, r21, h21⟩ := h20.stA (v := kv .u32 H) (i5 _ _ _) (w8S _) (by simp) (by simp [hHl]) (kv_one _ _)
      rw [s5] at h21
      refine ⟨_, h12.ldA (i3 _ _) (w8A _) (w8S _) (by simp [hHl]), g13, w20, r20, w21, r21, fun x w' => ∃ t : Nat, x = (t : Int) ∧ t ≤ 64 ∧ ∃ v : List Nat, rounds W H t = v ∧ St w [] w' (M0 ++ [.arr g6 233 (kv .u32 H)] ++ [.arr g8 232 (kv .u32 W)] ++ [.arr g13 233 (kv .u32 v)]), fun x _ => 64 - x.toNat, ⟨0, rfl, by omega, H, rfl, h21⟩, ?_⟩
      rintro x w22 ⟨t, rfl, ht, v, hv, h22⟩
      have hvlt : Lt32 v := by rw [← hv]; exact rounds_lt W hHlt t
      have hvl : v.length = 8 := by rw [← hv]; exact rounds_len W hHl t
      refine ⟨fun h => ?_, fun h => ?_⟩
      · have ht' : t < 64 := by simp at h; omega
        obtain ⟨Q, hQ⟩ : ∃ Q : World → Prop, Q = fun w' => St w [] w' (M0 ++ [.arr g6 233 (kv .u32 H)] ++ [.arr g8 232 (kv .u32 W)] ++ [.arr g13 233 (kv .u32 v)]) := ⟨_, rfl⟩
        have hQ22 : Q w22 := by rw [hQ]; exact h22
        have hd : ∀ w', Q w' → Q w'.drew := fun w' h => by rw [hQ] at h ⊢; exact h.drew
        have ldv : ∀ j : Nat, j < 8 → ∀ w', Q w' → (Instr.loadAt 209 (.pointer (some ⟨g13, j, none⟩))).run Tryz.prog w' = .ok (.int .u32 ((v.getD j 0 : Nat) : Int)) w' := fun j hj w' h => by
          rw [hQ] at h; exact h.ldK (i5 _ _ _) (uA _) rfl (by omega)
        have ldw : ∀ w', Q w' → (Instr.loadAt 209 (.pointer (some ⟨g8, 0 + Int.toNat (t : Int) * 1, none⟩))).run Tryz.prog w' = .ok (.int .u32 ((W.getD t 0 : Nat) : Int)) w' := fun w' h => by
          rw [hQ] at h; exact h.ldK (i4' _ _ _) (uA _) (ze t) (by omega)
        have ldk : ∀ w', Q w' → (Instr.loadAt 209 (.pointer (some ⟨g3, 0 + Int.toNat (t : Int) * 1, none⟩))).run Tryz.prog w' = .ok (.int .u32 ((kTab.getD t 0 : Nat) : Int)) w' := fun w' h => by
          rw [hQ] at h; exact h.ldK (i1' _ _ _) (uA _) (ze t) (by rw [kTab_len]; omega)
        refine ⟨_, ldv 4 (by decide) _ hQ22, _, ldv 5 (by decide) _ hQ22, _, ldv 4 (by decide) _ hQ22, _, ldv 6 (by decide) _ hQ22, _, ldv 0 (by decide) _ hQ22, _, ldv 1 (by decide) _ hQ22, _, ldv 0 (by decide) _ hQ22, _, ldv 2 (by decide) _ hQ22, _, ldv 1 (by decide) _ hQ22, _, ldv 2 (by decide) _ hQ22,
          Q, hd _ hQ22, by omega, by omega, by omega, by omega, _, ldv 7 (by decide), _, ldv 4 (by decide), _, ldv 4 (by decide), _, ldv 4 (by decide), _, ldk, _, ldw, (turn_spec _ 6 _ (hvlt _) (by decide) (by decide)).mono ?_⟩
        rintro e w23 ⟨rfl, rfl⟩
        refine ⟨_, rfl, Q, fun _ h => h, hd _ hQ22, (turn_spec _ 11 _ (hvlt _) (by decide) (by decide)).mono ?_⟩
        rintro e w24 ⟨rfl, rfl⟩
        refine ⟨_, rfl, Q, fun _ h => h, hd _ hQ22, (turn_spec _ 25 _ (hvlt _) (by decide) (by decide)).mono ?_⟩
        rintro e w25 ⟨rfl, rfl⟩
        refine ⟨_, rfl, Q, fun _ h => h, hd _ hQ22, Q, hd _ (hd _ hQ22), _, ldv 0 (by decide), _, ldv 0 (by decide), _, ldv 0 (by decide), (turn_spec _ 2 _ (hvlt _) (by decide) (by decide)).mono ?_⟩
        rintro e w26 ⟨rfl, rfl⟩
        refine ⟨_, rfl, Q, fun _ h => h, hd _ (hd _ hQ22), (turn_spec _ 13 _ (hvlt _) (by decide) (by decide)).mono ?_⟩
        rintro e w27 ⟨rfl, rfl⟩
        refine ⟨_, rfl, Q, fun _ h => h, hd _ (hd _ hQ22), (turn_spec _ 22 _ (hvlt _) (by decide) (by decide)).mono ?_⟩
        rintro e w28 ⟨rfl, rfl⟩
        have h28 := hd _ (hd _ hQ22)
        rw [hQ] at h28
        refine ⟨_, rfl, Q, fun _ h => h, hd _ (hd _ hQ22), fun x w' => ∃ j : Nat, x = (j : Int) ∧ j ≤ 7 ∧ St w [] w' (M0 ++ [.arr g6 233 (kv .u32 H)] ++ [.arr g8 232 (kv .u32 W)] ++ [.arr g13 233 (kv .u32 (shF v j))]), fun x _ => x.toNat, ⟨7, rfl, by omega, by rw [shF_7 hvl]; exact h28⟩, ?_⟩
        rintro x w29 ⟨j, rfl, hj, h29⟩
        refine ⟨fun h => ?_, fun h => ?_⟩
        · have hj0 : 0 < j := by simp at h; omega
          have e1 : IntKind.wrap .i64 ((j : Int) - 1) = ((j - 1 : Nat) : Int) := by rw [wrap_i64 (by omega) (by omega)]; omega
          rw [e1]
          obtain ⟨f1, f2⟩ := shF_step hvl hj0 hj
          obtain ⟨w30, r30, h30⟩ := h29.stK (n := v.getD (j - 1) 0) (i5 _ _ _) (uS _) (ze j) (by rw [shF_len hvl hj]; omega)
          rw [s5, f2] at h30
          refine ⟨by omega, by omega, _, h29.ldK (i5 _ _ _) (uA _) (ze (j - 1)) (by rw [shF_len hvl hj]; omega), by omega, by omega, w30, ?_, ⟨j - 1, rfl, by omega, h30⟩, ?_⟩
          · rw [f1]; exact r30
          · show ((j - 1 : Nat) : Int).toNat < (j : Int).toNat
            omega
        · have hj0 : j = 0 := by simp at h; omega
          subst hj0
          obtain ⟨f1, _⟩ := shF_end hvl 0 0
          rw [bg1_val (hvlt _), bg0_val (hvlt _), ch_val (hvlt _) (hvlt _) (hvlt _), maj_val (hvlt _) (hvlt _) (hvlt _)]
          simp only [add_val]
          refine ⟨_, h29.ldK (i5 _ _ _) (uA _) (rfl : 4 = 4) (by rw [shF_len hvl (by omega)]; omega), ?_⟩
          rw [f1]
          simp only [add_val]
          obtain ⟨w31, r31, h31⟩ := h29.stK (n := add32 (v.getD 3 0) (add32 (add32 (add32 (add32 (v.getD 7 0) (bg1 (v.getD 4 0))) (chF (v.getD 4 0) (v.getD 5 0) (v.getD 6 0))) (kTab.getD t 0)) (W.getD t 0))) (i5 _ _ _) (uS _) (rfl : 4 = 4) (by rw [shF_len hvl (by omega)]; omega)
          rw [s5] at h31
          obtain ⟨w32, r32, h32⟩ := h31.stK (n := add32 (add32 (add32 (add32 (add32 (v.getD 7 0) (bg1 (v.getD 4 0))) (chF (v.getD 4 0) (v.getD 5 0) (v.getD 6 0))) (kTab.getD t 0)) (W.getD t 0)) (add32 (bg0 (v.getD 0 0)) (majF (v.getD 0 0) (v.getD 1 0) (v.getD 2 0)))) (i5 _ _ _) (uS _) (rfl : 0 = 0) (by rw [List.length_set, shF_len hvl (by omega)]; omega)
          rw [s5, (shF_end hvl _ _).2] at h32
          exact ⟨w31, r31, w32, r32, ⟨t + 1, wrap_succ ht' (by omega), by omega, _, by rw [rounds, hv]; rfl, h32⟩, mu_succ ht' (by omega)⟩
      · have ht' : t = 64 := by simp at h; omega
        have hvV : v = V := by rw [← hv, ht', hV]
        obtain ⟨Z, hZ⟩ : ∃ Z, List.zipWith add32 H v = Z := ⟨_, rfl⟩
        have hZl : Z.length = 8 := by rw [← hZ]; exact zip_len hHl hvl
        have hZg : ∀ j, j < 8 → Z[j]? = some (add32 (H.getD j 0) (v.getD j 0)) := fun j hj => by rw [← hZ]; exact zip_get hHl hvl hj
        have hcZ : compress H B = Z := by rw [hcomp, ← hvV, hZ]
        clear hvV ht' ht h hv hV hcomp
        refine ⟨fun x w' => ∃ j : Nat, x = (j : Int) ∧ j ≤ 8 ∧ St w [] w' (M0 ++ [.arr g6 233 (kv .u32 (mixG Z H j))] ++ [.arr g8 232 (kv .u32 W)] ++ [.arr g13 233 (kv .u32 v)]), fun x _ => 8 - x.toNat, ⟨0, rfl, by omega, by rw [mixG_zero]; exact h22⟩, ?_⟩
        rintro x w33 ⟨j, rfl, hj, h33⟩
        have hml : (mixG Z H j).length = 8 := by rw [mixG_len (by omega) (by omega)]; exact hHl
        refine ⟨fun h => ?_, fun h => ?_⟩
        · have hj' : j < 8 := by simp at h; omega
          have hgj : (mixG Z H j).getD j 0 = H.getD j 0 := by simp only [List.getD, mixG_get (show Z.length = H.length by omega) (show j < H.length by omega)]
          obtain ⟨w34, r34, h34⟩ := h33.drew.stK (n := add32 (H.getD j 0) (v.getD j 0)) (i3' _ _ _) (uS _) (ze j) (by omega)
          rw [s3', mixG_set (by omega) (hZg j hj')] at h34
          refine ⟨fun w' => St w [] w' (M0 ++ [.arr g6 233 (kv .u32 (mixG Z H j))] ++ [.arr g8 232 (kv .u32 W)] ++ [.arr g13 233 (kv .u32 v)]), h33.drew, by omega, by omega, by omega, by omega, _, fun w' h => h.ldK (i3' _ _ _) (uA _) (ze j) (by omega), _, fun w' h => h.ldK (i5 _ _ _) (uA _) (ze j) (by omega), by omega, by omega, w34, ?_, ⟨j + 1, wrap_succ hj' (by omega), by omega, h34⟩, mu_succ hj' (by omega)⟩
          rw [hgj, add_val]; exact r34
        · have hj' : j = 8 := by simp at h; omega
          subst hj'
          have hall : mixG Z H 8 = Z := by have := mixG_all (x := Z) (l := H) (by omega); rwa [hHl] at this
          rw [hall] at h33
          have h33' := St.pop (St.pop h33)
          have ew : IntKind.wrap .i64 (((64 * b : Nat) : Int) + 64) = ((64 * (b + 1) : Nat) : Int) := by rw [wrap_i64 (by omega) (by omega)]; omega
          rw [ew]
          refine ⟨⟨b + 1, rfl, by omega, ?_⟩, ?_⟩
          · rw [hnext, hcZ]; exact h33'
          · show n6 - ((64 * (b + 1) : Nat) : Int).toNat < n6 - ((64 * b : Nat) : Int).toNat
            omega
  · have hbe : 64 * b = n6 := by simp at h; omega
    have hbd : n6 / 64 = b := by omega
    rw [hbd]
    obtain ⟨H, hH⟩ : ∃ H, blocksF b h0L L = H := ⟨_, rfl⟩
    have hHl : H.length = 8 := by rw [← hH]; exact blocksF_len _ _ rfl
    rw [hH] at h9 ⊢
    clear hH hbd hbe h
    have hz := build_arr (P := Tryz.prog) (w := w9) (d32Z w9) Tryz.underlying22 (sB _) [] (by simp) (by simp)
    simp only [List.nil_append, List.length_nil, List.drop_zero] at hz
    obtain ⟨g21, w10, r10, h10⟩ := h9.zeroA d32Z
    have i3 : ∀ (r s : Res), (M0 ++ [r] ++ [s])[3]? = some r := fun r s => by rw [hM0]; rfl
    have i4 : ∀ (r s : Res), (M0 ++ [r] ++ [s])[4]? = some s := fun r s => by rw [hM0]; rfl
    have i0 : ∀ (r s : Res), (M0 ++ [r] ++ [s])[0]? = some (.arr g2 22 (bv (List.replicate 32 0))) := fun r s => by rw [hM0]; rfl
    have s4 : ∀ (r s s' : Res), (M0 ++ [r] ++ [s]).set 4 s' = M0 ++ [r] ++ [s'] := fun r s s' => by rw [hM0]; rfl
    have hdl : (digL H).length = 32 := digL_len H
    obtain ⟨w11, r11, h11⟩ := h10.stA (v := bv (List.replicate 32 0)) (i4 _ _) (d32S _) (by simp) (by simp) (bv_one _)
    rw [s4] at h11
    refine ⟨_, hz, g21, w10, r10, w11, r11, fun x w' => ∃ i : Nat, x = (i : Int) ∧ i ≤ 32 ∧ St w [] w' (M0 ++ [.arr g6 233 (kv .u32 H)] ++ [.arr g21 22 (bv (upTo (digL H) i))]), fun x _ => 32 - x.toNat, ⟨0, rfl, by omega, by rw [upTo_zero, hdl]; exact h11⟩, ?_⟩
    rintro x w12 ⟨i, rfl, hi, h12⟩
    refine ⟨fun h => ?_, fun h => ?_⟩
    · have hi' : i < 32 := by simp at h; omega
      have e1 : IntKind.wrap .i64 (Int.tdiv (i : Int) 4) = ((i / 4 : Nat) : Int) := by rw [Int.tdiv_eq_ediv_of_nonneg (by omega), wrap_i64 (by omega) (by omega)]; omega
      have e2 : IntKind.wrap .u64 ((24 : Int) - IntKind.wrap .u64 (8 * IntKind.wrap .u64 (Int.tmod (i : Int) 4))) = ((24 - 8 * (i % 4) : Nat) : Int) := by
        rw [Int.tmod_eq_emod_of_nonneg (by omega)]
        simp only [wrap_u64]
        omega
      rw [e1, e2]
      have hval := digB_val H (i / 4) (i % 4) (by omega)
      rw [show 4 * (i / 4) + i % 4 = i by omega] at hval
      obtain ⟨w13, r13, h13⟩ := h12.stB (b := digB H i) (i4 _ _) (sB _) (ze i) (by rw [upTo_len (by omega)]; omega)
      rw [s4, upTo_set (digL_get H hi')] at h13
      refine ⟨by omega, by omega, _, h12.ldK (i3 _ _) (uA _) (ze (i / 4)) (by omega), by omega, by omega, by omega, w13, ?_, ⟨i + 1, wrap_succ hi' (by omega), by omega, h13⟩, mu_succ hi' (by omega)⟩
      rw [hval]; exact r13
    · have hi' : i = (digL H).length := by simp at h; omega
      rw [hi', upTo_all] at h12
      obtain ⟨w13, r13, h13⟩ := h12.stA (i := 0) (v := bv (digL H)) (i0 _ _) (d32S _) (by simp) (by simp [hdl]) (bv_one _)
      have i0' : ((M0 ++ [Res.arr g6 233 (kv .u32 H)] ++ [Res.arr g21 22 (bv (digL H))]).set 0 (.arr g2 22 (bv (digL H))))[0]? = some (.arr g2 22 (bv (digL H))) := by rw [hM0]; rfl
      exact ⟨_, h12.ldA (i4 _ _) (d32A _) (d32S _) (by simp [hdl]), w13, r13, _, h13.ldVarA i0' (d32A _) (d32S _) (by simp [hdl]), rfl, h13.chg⟩

open Go Sx
set_option maxRecDepth 8000

theorem bv_zeros (n : Nat) : bv (List.replicate n 0) = List.replicate n (.int .u8 0) := by simp [bv]

theorem rmac_spec (a : Option Addr) (n c : Nat) (key : List UInt8) (a1 : Option Addr) (n1 c1 : Nat) (vs : List Value) (ls : List (List UInt8)) (w : World) (hr : RdB w a n c key) (hb : n ≤ 70368744170000) (hr1 : Rd w a1 n1 c1 1 vs) (h2 : Row2 w vs ls) (hb1 : ls.flatten.length ≤ 70368744170000) (hn1 : n1 ≤ 4611686018427387904) :
    Calls Tryz.prog 101 #[.slice a n c, .slice a1 n1 c1] w fun e w' => e = .returned (.agg (bv (macF key ls.flatten)).toArray) ∧ Chg [] w w' := by
  have hl := hr.lenB
  have hln : ls.length = n1 := by have := hr1.len; have := h2.len; omega
  apply amphoraref02_Mac_vc
  obtain ⟨g4, w1, r1, h1⟩ := (St.start w).zeroA d32Z
  refine ⟨_, _, r1, fun xa xn xc w' => ∃ k : List UInt8, RdB w' xa xn xc k ∧ k.length ≤ 64 ∧ macK key = k ++ List.replicate (64 - k.length) 0 ∧ St w [] w' [.arr g4 22 (bv (List.replicate 32 0))], ⟨fun h => ?_, fun h => ?_⟩, ?_⟩
  · have hn : 64 < key.length := by simp at h; omega
    obtain ⟨g2, w2, r2, h2'⟩ := h1.lit bbT [.slice a n c] (by simp [Value.oneCell']) (by simp)
    refine ⟨_, _, _, _, r2, (rsum_spec _ 1 1 _ [key] w2 (h2'.rd (i := 1) rfl) (row2_one (h2'.rd1 hr)) (by simp; omega) (by decide)).mono ?_⟩
    rintro e w3 ⟨rfl, hc3⟩
    have hk1 : shaF [key].flatten = shaF key := by simp
    rw [hk1]
    have h3 := h2'.same hc3
    obtain ⟨g5, w4, r4, h4⟩ := h3.zeroA d32Z
    obtain ⟨w5, r5, h5⟩ := h4.stA (i := 2) (v := bv (shaF key)) rfl (d32S _) (by simp) (by simp) (bv_one _)
    refine ⟨_, rfl, g5, w4, r4, w5, r5, by omega, by omega, shaF key, h5.rdA (i := 2) rfl (by simp), by simp, ?_, h5.sub (List.Sublist.cons_cons _ (List.nil_sublist _))⟩
    simp only [macK, if_pos hn]
  · have hn : ¬ 64 < key.length := by simp at h; omega
    exact ⟨key, h1.rd1 hr, by omega, by simp only [macK, if_neg hn], h1⟩
  rintro xa xn xc w6 ⟨k, hrk, hk64, hmk, h6⟩
  have hkl := hrk.lenB
  obtain ⟨K, hKk⟩ : ∃ K, macK key = K := ⟨_, rfl⟩
  have hKl : K.length = 64 := by rw [← hKk]; exact macK_len key
  have hr16 := hr1.keep0 h6.chg
  have h26 := h2.keep0 h6.chg
  obtain ⟨gi, w7, r7, h7⟩ := (St.start w6).mkN (kl := .i64) (kc := .i64) (c := 64) bT rfl (by omega) (by omega) (by omega)
  obtain ⟨go, w8, r8, h8⟩ := h7.mkN (kl := .i64) (kc := .i64) (c := 64) bT rfl (by omega) (by omega) (by omega)
  have h8' : St w6 [] w8 [.row 5 1 (.slice (some ⟨gi, 0, none⟩) 64 64) 64 (bv (mixG (ipad key) (List.replicate 64 0) 0)), .row 5 1 (.slice (some ⟨go, 0, none⟩) 64 64) 64 (bv (mixG (opad key) (List.replicate 64 0) 0))] := by
    rw [mixG_zero, mixG_zero, bv_zeros]; exact h8
  have hip := ipad_len key
  have hop := opad_len key
  refine ⟨_, _, _, _, r7, _, _, _, _, r8, fun x w' => ∃ i : Nat, x = (i : Int) ∧ i ≤ 64 ∧ St w6 [] w' [.row 5 1 (.slice (some ⟨gi, 0, none⟩) 64 64) 64 (bv (mixG (ipad key) (List.replicate 64 0) i)), .row 5 1 (.slice (some ⟨go, 0, none⟩) 64 64) 64 (bv (mixG (opad key) (List.replicate 64 0) i))], fun x _ => 64 - x.toNat,
    ⟨0, rfl, by omega, h8'⟩, ?_⟩
  rintro x w9 ⟨i, rfl, hi, h9⟩
  refine ⟨fun h => ?_, fun h => ?_⟩
  · have hi' : i < 64 := by simp at h; omega
    have hKi : K.getD i 0 = if i < k.length then k.getD i 0 else 0 := by
      rw [← hKk, hmk]
      simp only [List.getD, List.getElem?_append]
      split
      · rfl
      · rw [List.getElem?_replicate]; split <;> rfl
    refine ⟨fun x w' => x = ((K.getD i 0).toNat : Int) ∧ w' = w9, ⟨fun h => ?_, fun h => ?_⟩, ?_⟩
    · have hik : i < xn := by simp at h; omega
      refine ix0 (hrk.keep0 h9.chg).cells hkl i hik fun b o ha q => ⟨b, o, ha, by omega, by omega, _, q w9 (hrk.keep0 h9.chg).cells, ?_, rfl⟩
      rw [hKi, if_pos (by omega)]
    · have hik : ¬ i < xn := by simp at h; omega
      refine ⟨?_, rfl⟩
      rw [hKi, if_neg (by omega)]; rfl
    rintro y w10 ⟨rfl, rfl⟩
    have hb5 : (opad key)[i]? = some (K.getD i 0 ^^^ 0x5c) := by simp [opad, hKk, List.getD, show i < K.length by omega]
    have hb3 : (ipad key)[i]? = some (K.getD i 0 ^^^ 0x36) := by simp [ipad, hKk, List.getD, show i < K.length by omega]
    have x5 : bxor .u8 ((K.getD i 0).toNat : Int) 92 = ((K.getD i 0 ^^^ 0x5c).toNat : Int) := xorc_val _ 0x5c
    have x3 : bxor .u8 ((K.getD i 0).toNat : Int) 54 = ((K.getD i 0 ^^^ 0x36).toNat : Int) := xorc_val _ 0x36
    obtain ⟨w11, r11, h11⟩ := h9.stRow (i := 0) (j := i) (T := 5) (v := .int .u8 ((K.getD i 0 ^^^ 0x36).toNat : Int)) rfl (sB1 _) hi' rfl
    rw [bv_set, mixG_set (by rw [hip, List.length_replicate]) hb3] at h11
    obtain ⟨w12, r12, h12⟩ := h11.stRow (i := 1) (j := i) (T := 5) (v := .int .u8 ((K.getD i 0 ^^^ 0x5c).toNat : Int)) rfl (sB1 _) hi' rfl
    rw [bv_set, mixG_set (by rw [hop, List.length_replicate]) hb5] at h12
    have ze : 0 + Int.toNat (i : Int) * 1 = i := by omega
    refine ⟨gi, 0, rfl, by omega, by omega, w11, by rw [x3, ze]; exact r11, go, 0, rfl, by omega, by omega, w12, by rw [x5, ze]; exact r12, ⟨i + 1, wrap_succ hi' (by omega), by omega, h12⟩, mu_succ hi' (by omega)⟩
  · have hi' : i = 64 := by simp at h; omega
    have f1 : mixG (ipad key) (List.replicate 64 (0 : UInt8)) i = ipad key := by
      have := mixG_all (x := ipad key) (l := List.replicate 64 (0 : UInt8)) (by rw [hip, List.length_replicate])
      rw [List.length_replicate] at this; rw [hi', this]
    have f2 : mixG (opad key) (List.replicate 64 (0 : UInt8)) i = opad key := by
      have := mixG_all (x := opad key) (l := List.replicate 64 (0 : UInt8)) (by rw [hop, List.length_replicate])
      rw [List.length_replicate] at this; rw [hi', this]
    rw [f1, f2] at h9
    clear f1 f2 hi' h hi h8' h8 h7
    refine ⟨fun xa xn xc x w' => ∃ i : Nat, x = (i : Int) ∧ i ≤ n1 ∧ xn = 64 + (ls.take i).flatten.length ∧ St w6 [] w' [.row 5 1 (.slice xa xn xc) xn (bv (ipad key ++ (ls.take i).flatten)), .row 5 1 (.slice (some ⟨go, 0, none⟩) 64 64) 64 (bv (opad key))], fun _ _ _ x _ => n1 - x.toNat, ⟨0, rfl, by omega, by simp, by simpa using h9⟩, ?_⟩
    rintro ya yn yc y w10 ⟨i, rfl, hi, rfl, h10⟩
    have hft := flat_take_le ls i
    refine ⟨fun h => ?_, fun h => ?_⟩
    · have hi' : i < n1 := by simp at h; omega
      obtain ⟨b, o, a', n', c', ha, hv, hrd, hld⟩ := ixS hr16.cells h26 (i := i) (by omega)
      have hl' := hrd.lenB
      have hf1 := flat_take (ls := ls) (i := i) (by omega)
      have hf2 := flat_take_le ls (i + 1)
      have hf3 := congrArg List.length hf1
      rw [List.length_append, hl'] at hf3
      obtain ⟨va, vc, w11, r11, h11⟩ := h10.appendB (i := 0) rfl (h10.rd1 hrd) (by omega)
      refine ⟨b, o, ha, by omega, by omega, _, _, _, hld w10 (hr16.cells.keep0 h10.chg), _, _, _, _, r11, ⟨i + 1, wrap_succ hi' hn1, by omega, by omega, ?_⟩, mu_succ hi' hn1⟩
      rw [hf1, ← List.append_assoc]; exact h11
    · have hi' : i = n1 := by simp at h; omega
      have hta : ls.take i = ls := by rw [hi', ← hln, List.take_length]
      rw [hta] at h10 ⊢
      obtain ⟨ms, hms⟩ : ∃ ms, ls.flatten = ms := ⟨_, rfl⟩
      rw [hms] at h10 hb1 ⊢
      obtain ⟨g11, w11, r11, h11⟩ := h10.lit bbT [.slice ya (64 + ms.length) yc] (by simp [Value.oneCell']) (by simp)
      refine ⟨_, _, _, _, r11, (rsum_spec _ 1 1 _ [ipad key ++ ms] w11 (h11.rd (i := 2) rfl) (row2_one (h11.rd (i := 0) rfl)) (by simp [hip]; omega) (by decide)).mono ?_⟩
      rintro e w12 ⟨rfl, hc12⟩
      have hk1 : shaF [ipad key ++ ms].flatten = shaF (ipad key ++ ms) := by simp
      rw [hk1]
      have h12 := h11.same hc12
      obtain ⟨g13, w13, r13, h13⟩ := h12.zeroA d32Z
      obtain ⟨w14, r14, h14⟩ := h13.stA (i := 3) (v := bv (shaF (ipad key ++ ms))) rfl (d32S _) (by simp) (by simp) (bv_one _)
      obtain ⟨g15, w15, r15, h15⟩ := h14.lit bbT [.slice (some ⟨go, 0, none⟩) 64 64, .slice (some ⟨g13, 0, none⟩) 32 32] (by simp [Value.oneCell']) (by simp)
      refine ⟨_, rfl, g13, w13, r13, w14, r14, by omega, by omega, _, _, _, _, r15, (rsum_spec _ 2 2 _ [opad key, shaF (ipad key ++ ms)] w15 (h15.rd (i := 4) rfl) (row2_two (h15.rd (i := 1) rfl) (h15.rdA (i := 3) rfl (by simp))) (by simp [hop]) (by decide)).mono ?_⟩
      rintro e w16 ⟨rfl, hc16⟩
      have hm : shaF [opad key, shaF (ipad key ++ ms)].flatten = macF key ms := by rw [macF_pads]; simp
      rw [hm]
      have hfin := h6.same (h15.chg.trans hc16)
      obtain ⟨w17, r17, h17⟩ := hfin.stA (i := 0) (v := bv (macF key ms)) rfl (d32S _) (by simp) (by simp) (bv_one _)
      exact ⟨_, rfl, w17, r17, _, h17.ldVarA (i := 0) (l := bv (macF key ms)) rfl (d32A _) (d32S _) (by simp), rfl, h17.chg⟩

theorem row2_three {w : World} {a : Option Addr} {n c : Nat} {l : List UInt8} {a2 : Option Addr} {n2 c2 : Nat} {l2 : List UInt8} {a3 : Option Addr} {n3 c3 : Nat} {l3 : List UInt8} (h : RdB w a n c l) (h2 : RdB w a2 n2 c2 l2) (h3 : RdB w a3 n3 c3 l3) : Row2 w [.slice a n c, .slice a2 n2 c2, .slice a3 n3 c3] [l, l2, l3] :=
  (row2_two h2 h3).cons h

theorem eqD (x y : Operand) (l : List UInt8) (hl : l.length = 32) (w : World) : (eqlS .eql 22 x y (.agg (bv l).toArray) (.agg (bv l).toArray)).run Tryz.prog w = .ok (.bool true) w := by
  rw [bv_ints]
  exact eqlS_arr Tryz.underlying22 bE (fun w => sB1 w) bA (by kernel_rfl) x y _ (by simp [hl]) w
theorem neD (x y : Operand) (l : List UInt8) (hl : l.length = 32) (w : World) : (eqlS .neq 22 x y (.agg (bv l).toArray) (.agg (bv l).toArray)).run Tryz.prog w = .ok (.bool false) w := by
  rw [bv_ints]
  exact neqS_arr Tryz.underlying22 bE (fun w => sB1 w) bA (by kernel_rfl) x y _ (by simp [hl]) w

open Go Sx
set_option maxRecDepth 8000

theorem byteI (j : Nat) : IntKind.wrap .u8 ((j + 1 : Nat) : Int) = ((UInt8.ofNat (j + 1)).toNat : Int) := by
  rw [wrap_u8, UInt8.toNat_ofNat']; omega

theorem macF_congr {k k' : List UInt8} (h : macK k = macK k') (m : List UInt8) : macF k m = macF k' m := by simp only [macF, h]

theorem outF_bound {n j : Nat} (h1 : n ≤ 32 * j) (h2 : j = 0 ∨ 32 * (j - 1) < n) : (n + 31) / 32 = j := by omega

theorem rderive_specN (a0 : Option Addr) (n0 c0 : Nat) (salt : List UInt8) (a1 : Option Addr) (n1 c1 : Nat) (secret : List UInt8) (a2 : Option Addr) (n2 c2 : Nat) (info : List UInt8) (x : Int) (w : World) (hr0 : RdB w a0 n0 c0 salt) (hr1 : RdB w a1 n1 c1 secret) (hr2 : RdB w a2 n2 c2 info) (hb : n0 + n1 + n2 ≤ 1099511627776) :
    Calls Tryz.prog 69 #[.slice a0 n0 c0, .slice a1 n1 c1, .slice a2 n2 c2, .int .i64 x] w fun e w' =>
      ((x < 0 ∨ 8160 < x) ∧ e = .returned (.tuple #[.slice none 0 0, .int .i64 7]) ∧ w' = w) ∨
      (0 ≤ x ∧ x ≤ 8160 ∧ ∃ a n c, e = .returned (.tuple #[.slice a n c, .int .i64 0]) ∧ Chg [] w w' ∧ RdB w' a n c (deriveF salt secret info x.toNat) ∧ ∀ ad, a = some ad → w.heap.size ≤ ad.block) := by
  have e0 := hr0.lenB
  have e1 := hr1.lenB
  have e2 := hr2.lenB
  apply amphoraref02_Derive_vc
  refine ⟨fun h => .inl ⟨by simp at h; omega, rfl, rfl⟩, fun h => ?_⟩
  have hx : 0 ≤ x ∧ x ≤ 8160 := by simp at h; omega
  obtain ⟨n, rfl⟩ := Int.eq_ofNat_of_zero_le hx.1
  clear h
  refine ⟨fun xa xn xc w' => ∃ s : List UInt8, RdB w' xa xn xc s ∧ macK s = macK salt ∧ xn ≤ 1099511627776 ∧ Chg [] w w', ⟨fun h => ?_, fun _ => ⟨salt, hr0, rfl, by omega, Chg.refl _ _⟩⟩, ?_⟩
  · have hn0 : n0 = 0 := by simp at h; omega
    have hs : salt = [] := List.eq_nil_of_length_eq_zero (by omega)
    obtain ⟨g, w1, r1, h1⟩ := (St.start w).mkN (kl := .i64) (kc := .i64) (c := 32) bT rfl (by omega) (by omega) (by omega)
    have h1' : St w [] w1 [.row 5 1 (.slice (some ⟨g, 0, none⟩) 32 32) 32 (bv (List.replicate 32 0))] := by rw [bv_zeros]; exact h1
    refine ⟨_, _, _, _, r1, List.replicate 32 0, h1'.rd (i := 0) rfl, ?_, by omega, h1.chg⟩
    rw [hs]; rfl
  rintro xa xn xc w2 ⟨s, hrs, hms, hxn, hc2⟩
  have es := hrs.lenB
  obtain ⟨g3, w3, r3, h3⟩ := (St.start w2).lit bbT [.slice a1 n1 c1] (by simp [Value.oneCell']) (by simp)
  have hc3 := hc2.trans h3.chg
  refine ⟨_, _, _, _, r3, (rmac_spec xa xn xc s _ 1 1 _ [secret] w3 (h3.rd1 hrs) (by omega) (h3.rd (i := 0) rfl) (row2_one (hr1.keep0 hc3)) (by simp; omega) (by decide)).mono ?_⟩
  rintro e w4 ⟨rfl, hc4⟩
  have hk1 : macF s [secret].flatten = macF salt secret := by rw [macF_congr hms]; simp
  rw [hk1]
  obtain ⟨prk, hprk⟩ : ∃ p, macF salt secret = p := ⟨_, rfl⟩
  have hpl : prk.length = 32 := by rw [← hprk]; exact macF_len _ _
  rw [hprk]
  have hdF : deriveF salt secret info n = (outF prk info ((n + 31) / 32)).take n := by rw [deriveF, hprk]
  have hc4' := hc3.trans hc4
  obtain ⟨g5, w5, r5, h5⟩ := ((St.start w).same hc4').zeroA d32Z
  obtain ⟨w6, r6, h6⟩ := h5.stA (i := 0) (v := bv prk) rfl (d32S _) (by simp) (by simp [hpl]) (bv_one _)
  have h6n := h6.addNil 5 1
  obtain ⟨g7, w7, r7, h7⟩ := h6n.lit bT [] (by simp) (by simp)
  refine ⟨_, rfl, g5, w5, r5, w6, r6, _, _, _, _, r7, fun xa xn xc ya yn yc z w' => ∃ j : Nat, z = ((j + 1 : Nat) : Int) ∧ (j = 0 ∨ 32 * (j - 1) < n) ∧ xn = 32 * j ∧ St w [] w' [.arr g5 22 (bv prk), .row 5 1 (.slice xa xn xc) xn (bv (outF prk info j)), .row 5 1 (.slice ya yn yc) yn (bv (tF prk info j))],
    fun _ xn _ _ _ _ _ _ => n + 32 - xn, ⟨0, rfl, .inl rfl, rfl, h7⟩, ?_⟩
  rintro xa' xn' xc' ya yn yc z w8 ⟨j, rfl, hj, rfl, h8⟩
  refine ⟨fun h => ?_, fun h => ?_⟩
  · have hlt : 32 * j < n := by simp at h; omega
    have htl : (tF prk info j).length ≤ 32 := by
      cases j with
      | zero => simp [tF]
      | succ j => simp [tF]
    rw [byteI]
    obtain ⟨g9, w9, r9, h9⟩ := h8.lit bT [.int .u8 ((UInt8.ofNat (j + 1)).toNat : Int)] (by simp [Value.oneCell']) (by simp)
    obtain ⟨g10, w10, r10, h10⟩ := h9.lit bbT [.slice ya yn yc, .slice a2 n2 c2, .slice (some ⟨g9, 0, none⟩) 1 1] (by simp [Value.oneCell']) (by simp)
    have q1 : RdB w10 ya yn yc (tF prk info j) := h10.rd (i := 2) rfl
    have q3 : RdB w10 (some ⟨g9, 0, none⟩) 1 1 [UInt8.ofNat (j + 1)] := h10.rd (i := 3) rfl
    refine ⟨by omega, by omega, _, _, _, _, r9, _, _, _, _, r10, (rmac_spec _ 32 32 prk _ 3 3 _ [tF prk info j, info, [UInt8.ofNat (j + 1)]] w10 (h10.rdA (i := 0) rfl (by simp [hpl])) (by omega) (h10.rd (i := 4) rfl) (row2_three q1 (h10.rd1 hr2) q3) (by simp; omega) (by decide)).mono ?_⟩
    rintro e w11 ⟨rfl, hc11⟩
    have hk2 : macF prk [tF prk info j, info, [UInt8.ofNat (j + 1)]].flatten = tF prk info (j + 1) := by rw [tF]; simp
    rw [hk2]
    have h11 := h10.same hc11
    obtain ⟨g12, w12, r12, h12⟩ := h11.zeroA d32Z
    have htl1 : (tF prk info (j + 1)).length = 32 := by simp [tF]
    obtain ⟨w13, r13, h13⟩ := h12.stA (i := 5) (v := bv (tF prk info (j + 1))) rfl (d32S _) (by simp) (by simp [htl1]) (bv_one _)
    obtain ⟨g14, w14, r14, h14⟩ := h13.lit bT [] (by simp) (by simp)
    obtain ⟨ta, tc, w15, r15, h15⟩ := h14.appendB (i := 6) (xs := []) rfl (h14.rdA (i := 5) (l := bv (tF prk info (j + 1))) (n := 32) rfl (by simp [htl1])) (by simp)
    simp only [List.length_nil, Nat.zero_add, List.nil_append] at r15 h15
    obtain ⟨va, vc, w16, r16, h16⟩ := h15.appendB (i := 1) rfl (h15.rd (i := 6) rfl) (by omega)
    have e1' : 32 * j + 32 = 32 * (j + 1) := by omega
    rw [e1'] at r16 h16
    refine ⟨_, rfl, g12, w12, r12, w13, r13, _, _, _, _, r14, by omega, by omega, _, _, _, _, r15, _, _, _, _, r16, ⟨j + 1, ?_, .inr (by omega), rfl, ?_⟩, ?_⟩
    · rw [wrap_i64 (by omega) (by omega)]; omega
    · have : List.Sublist [Res.arr g5 22 (bv prk), .row 5 1 (.slice va (32 * (j + 1)) vc) (32 * (j + 1)) (bv (outF prk info (j + 1))), .row 5 1 (.slice ta 32 tc) 32 (bv (tF prk info (j + 1)))]
          [Res.arr g5 22 (bv prk), .row 5 1 (.slice va (32 * (j + 1)) vc) (32 * (j + 1)) (bv (outF prk info (j + 1))), .row 5 1 (.slice ya yn yc) yn (bv (tF prk info j)), .row 5 1 (.slice (some ⟨g9, 0, none⟩) 1 1) 1 (bv [UInt8.ofNat (j + 1)]), .row 33 1 (.slice (some ⟨g10, 0, none⟩) 3 3) 3 [.slice ya yn yc, .slice a2 n2 c2, .slice (some ⟨g9, 0, none⟩) 1 1], .arr g12 22 (bv (tF prk info (j + 1))), .row 5 1 (.slice ta 32 tc) 32 (bv (tF prk info (j + 1)))] :=
        List.Sublist.cons_cons _ (List.Sublist.cons_cons _ (List.Sublist.cons _ (List.Sublist.cons _ (List.Sublist.cons _ (List.Sublist.cons _ (List.Sublist.refl _))))))
      exact St.sub h16 this
    · show n + 32 - 32 * (j + 1) < n + 32 - 32 * j
      omega
  · have hge : n ≤ 32 * j := by simp at h; omega
    have hj' := outF_bound hge hj
    have hrow := h8.rd (i := 1) rfl
    have hle := hrow.le
    refine ⟨by omega, by omega, .inr ⟨by omega, by omega, _, _, _, rfl, h8.chg, ?_, fun ad e => ?_⟩⟩
    · rw [Int.toNat_natCast, hdF, hj']
      exact rdB_upto (l := outF prk info j) hrow (k := n) hge
    · subst e
      have := h8.own 1 _ rfl ad.block (by simp [Res.fp, Value.ownBlock])
      simpa using this

theorem rderive_spec (a0 : Option Addr) (n0 c0 : Nat) (salt : List UInt8) (a1 : Option Addr) (n1 c1 : Nat) (secret : List UInt8) (a2 : Option Addr) (n2 c2 : Nat) (info : List UInt8) (x : Int) (w : World) (hr0 : RdB w a0 n0 c0 salt) (hr1 : RdB w a1 n1 c1 secret) (hr2 : RdB w a2 n2 c2 info) (hb : n0 + n1 + n2 ≤ 1099511627776) :
    Calls Tryz.prog 69 #[.slice a0 n0 c0, .slice a1 n1 c1, .slice a2 n2 c2, .int .i64 x] w fun e w' =>
      ((x < 0 ∨ 8160 < x) ∧ e = .returned (.tuple #[.slice none 0 0, .int .i64 7]) ∧ w' = w) ∨
      (0 ≤ x ∧ x ≤ 8160 ∧ ∃ a n c, e = .returned (.tuple #[.slice a n c, .int .i64 0]) ∧ Chg [] w w' ∧ RdB w' a n c (deriveF salt secret info x.toNat)) := by
  refine (rderive_specN a0 n0 c0 salt a1 n1 c1 secret a2 n2 c2 info x w hr0 hr1 hr2 hb).mono ?_
  rintro e w' (h | ⟨h1, h2, a, n, c, h3, h4, h5, _⟩)
  · exact .inl h
  · exact .inr ⟨h1, h2, a, n, c, h3, h4, h5⟩

end Go.Proofs.YtmdandkoajocpaaGreatDoor
