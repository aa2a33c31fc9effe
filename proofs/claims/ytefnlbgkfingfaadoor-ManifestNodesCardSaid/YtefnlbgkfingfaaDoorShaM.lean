/- Contracts of sha: NewMac, Keyed, Mac (conditions: those that each theorem names). -/
import Derived.Test.YtefnlbgkfingfaaDoorShaD
import Derived.Test.YtefnlbgkfingfaaDoorEqArr
import Derived.Laws.CopyRow
import Derived.Laws.IdiomCopy
namespace Go.Proofs.YtefnlbgkfingfaaDoor
open Go Sx
set_option maxRecDepth 8000

theorem o64A (w : World) : (isAgg 93).run Tryd.prog w = .ok true w := Tryd.isAgg93 w
theorem o64S (w : World) : (sizeOf 93).run Tryd.prog w = .ok 64 w := Tryd.sizeOf93 w
theorem o64Z (w : World) : (zeroValue 93).run Tryd.prog w = .ok (.agg (bv (List.replicate 64 0)).toArray) w := Tryd.zeroValue93 w
theorem sB1 (w : World) : (sizeOf 5).run Tryd.prog w = .ok 1 w := Tryd.sizeOf5 w

/-- copy into the front of an array. -/
theorem Sx.St.copyB {w0 w : World} {X : List Nat} {M : List Res} (h : St w0 X w M) {i g T n c d : Nat} {a : Option Addr} {l src : List UInt8} (hi : M[i]? = some (.arr g T (bv l))) (hd : l.length = d) (hr : RdB w a n c src) (hn : n ≤ d) :
    ∃ w', (Builtin.copy_ #[23, 23] 3 #[.slice (some ⟨g, 0, none⟩) d d, .slice a n c]).run Tryd.prog w = .ok (.int .i64 (n : Int)) w' ∧ St w0 X w' (M.set i (.arr g T (bv (src ++ l.drop n)))) := by
  have hl := hr.lenB
  have hinf : (Tryd.prog.info? 5).map (·.size) = some 1 := by kernel_rfl
  have hg := h.holds i _ hi
  have done : n = 0 → St w0 X w (M.set i (.arr g T (bv (src ++ l.drop n)))) := fun h0 => by
    subst h0
    have : src = [] := List.eq_nil_of_length_eq_zero hl
    subst this
    rw [List.nil_append, List.drop_zero]
    exact h.upd hi (Chg.refl _ _) hg (fun k hk => .inl hk)
  rcases hr.cells with h0 | ⟨b, o, rfl, hrg⟩
  · have h0' : n = 0 := by rw [← hl]; simpa [bv] using congrArg List.length h0
    refine ⟨w, ?_, done h0'⟩
    subst h0'
    exact run_copy_none w _ _ _ 5 _ _ _ _ _ _ bS hinf (by simp)
  · have hr' := run_copy_row (P := Tryd.prog) w 23 23 3 5 g 0 d d ⟨b, o, none⟩ n c (bv l).toArray T (bv src) bS hinf hg (by rw [bv_length, hl]; exact (Nat.min_eq_left hn).symm) (fun j v hj => by rw [Addr.add_mid]; exact hrg j v hj) (by simp; omega) (bv_one _)
    have e : ((bv l).toArray.toList.take 0 ++ bv src ++ (bv l).toArray.toList.drop (0 + (bv src).length)).toArray = (bv (src ++ l.drop n)).toArray := by
      simp [bv_drop, hl]
    rw [e] at hr'
    refine ⟨_, by rw [hr', bv_length, hl]; rfl, h.upd hi (w' := w.setRow g _) ⟨rfl, rfl, rfl, by simp, fun k _ hk => setRow_other w g k _ (fun e => hk (by simp [Res.fp, e]))⟩ (setRow_heap w g _ _ T _ hg) (by simp [Res.fp])⟩

theorem xorc_val (b c : UInt8) : bxor .u8 (b.toNat : Int) (c.toNat : Int) = ((b ^^^ c).toNat : Int) := by
  rw [bxor_nat rfl (by have := b.toNat_lt; simpa [kmod, IntKind.bits] using this) (by have := c.toNat_lt; simpa [kmod, IntKind.bits] using this), UInt8.toNat_xor]

/-- The cells of a Keyed. -/
def kdL (g : Nat) (o : List UInt8) : List Value := .pointer (some ⟨g, 0, none⟩) :: bv o

/-- A Keyed that has taken a message, in memory. -/
def ipad (key : List UInt8) : List UInt8 := (macK key).map (· ^^^ 0x36)
def opad (key : List UInt8) : List UInt8 := (macK key).map (· ^^^ 0x5c)
theorem ipad_len (key : List UInt8) : (ipad key).length = 64 := by rw [ipad, List.length_map]; exact macK_len key
theorem opad_len (key : List UInt8) : (opad key).length = 64 := by rw [opad, List.length_map]; exact macK_len key
def kM (gk g : Nat) (key m : List UInt8) (a : Option Addr) (c : Nat) : List Res := .arr gk 97 (kdL g (opad key)) :: hM g 106 (ipad key ++ m) a c
theorem macF_pads (key m : List UInt8) : macF key m = shaF (opad key ++ shaF (ipad key ++ m)) := rfl

theorem built_keyed : Tryd.prog.built 97 = fun parts => Instr.fill (fun i => (#[(0, 1), (1, 64)] : Array (Nat × Nat))[i]?) (.pointer none :: bv (List.replicate 64 0)).toArray parts := by kernel_rfl
theorem keyed_build (g : Nat) (w : World) : (Instr.build 97 #[(0, .pointer (some ⟨g, 0, none⟩))]).run Tryd.prog w = .ok (.agg (kdL g (List.replicate 64 0)).toArray) w := by
  apply run_build
  rw [built_keyed]
  show Instr.fill _ _ [(0, .pointer (some ⟨g, 0, none⟩))] = _
  rw [fill_step (off := 0) (sz := 1) rfl (by simp [Value.cells]) (by simp)]
  simp [Instr.fill, Value.cells, kdL]

theorem pA (w : World) : (isAgg 94).run Tryd.prog w = .ok false w := Tryd.isAgg94 w

theorem kWrite_spec {w0 w : World} {X : List Nat} {M : List Res} (gk g : Nat) (key m : List UInt8) (a : Option Addr) (c : Nat) (a1 : Option Addr) (n1 c1 : Nat) (vs : List Value) (ls : List (List UInt8)) (hK : KTab w0) (hX : 0 ∉ X) (hS : St w0 X w (M ++ kM gk g key m a c))
    (hp : PartsK (fpsL (hM g 106 (ipad key ++ m) a c)) w a1 n1 c1 vs ls) (hb : m.length + ls.flatten.length ≤ 140737488340000) (hn : n1 ≤ 4611686018427387904) :
    Calls Tryd.prog 52 #[.pointer (some ⟨gk, 0, none⟩), .slice a1 n1 c1] w fun e w' => e = .returned (.tuple #[]) ∧ ∃ a' c', St w0 X w' (M ++ kM gk g key (m ++ ls.flatten) a' c') ∧ Chg (fpsL (hM g 106 (ipad key ++ m) a c)) w w' := by
  have hS' : St w0 X w ((M ++ [.arr gk 97 (kdL g (opad key))]) ++ hM g 106 (ipad key ++ m) a c) := by rw [List.append_assoc]; exact hS
  have hN := hS.sub (List.sublist_append_right M _)
  have hip := ipad_len key
  apply sha_Keyed_Write_vc
  refine ⟨g, 0, hN.ldL (i := 0) (o := 0) rfl (pA _) rfl rfl, (hWrite_spec g _ (ipad key ++ m) a c a1 n1 c1 vs ls hK hX hS' hp (by rw [List.length_append, hip]; omega) hn).mono ?_⟩
  rintro e w' ⟨rfl, a', c', h', hc'⟩
  refine ⟨rfl, rfl, a', c', ?_, hc'⟩
  rw [List.append_assoc, List.append_assoc] at h'
  exact h'

theorem kWrite_nil (a1 : Option Addr) (n1 c1 : Nat) (w : World) : Calls Tryd.prog 52 #[.pointer none, .slice a1 n1 c1] w fun e w' => e = .returned (.tuple #[]) ∧ w' = w := by
  apply sha_Keyed_Write_vc_nil
  exact ⟨rfl, rfl⟩
/-- A part of an array of cells, to be read as bytes. -/
theorem Sx.St.rdAt1 {w0 w : World} {X : List Nat} {M : List Res} (h : St w0 X w M) {i g T : Nat} {v : Value} {l : List UInt8} (hi : M[i]? = some (.arr g T (v :: bv l))) : RdB w (some ⟨g, 1, none⟩) l.length l.length l :=
  ⟨.inr ⟨g, 1, rfl, fun j u hj => by
    have := h.cellsA hi (j + 1) u (by simpa using hj)
    rw [show 1 + j = 0 + (j + 1) by omega]; exact this⟩, by simp, Nat.le_refl _, by simp⟩

theorem rdB_nil0 (w : World) : RdB w none 0 0 [] := ⟨Cells.nil _ _, rfl, Nat.le_refl _, fun _ => rfl⟩

theorem row2_one {w : World} {a : Option Addr} {n c : Nat} {l : List UInt8} (h : RdB w a n c l) : Row2 w [.slice a n c] [l] := by
  refine ⟨rfl, fun i hi => ?_⟩
  have : i = 0 := by simpa using hi
  subst this
  exact ⟨a, n, c, rfl, h⟩
theorem row2_two {w : World} {a : Option Addr} {n c : Nat} {l : List UInt8} {a2 : Option Addr} {n2 c2 : Nat} {l2 : List UInt8} (h : RdB w a n c l) (h2 : RdB w a2 n2 c2 l2) : Row2 w [.slice a n c, .slice a2 n2 c2] [l, l2] := by
  refine ⟨rfl, fun i hi => ?_⟩
  rcases i with _ | _ | i
  · exact ⟨a, n, c, rfl, h⟩
  · exact ⟨a2, n2, c2, rfl, h2⟩
  · simp only [List.length_cons, List.length_nil] at hi; omega

theorem kSum_spec {w0 w : World} {X : List Nat} {M : List Res} (gk g : Nat) (key m : List UInt8) (a : Option Addr) (c : Nat) (hK : KTab w) (hS : St w0 X w (M ++ kM gk g key m a c)) (hb : m.length ≤ 70368744170000) :
    Calls Tryd.prog 53 #[.pointer (some ⟨gk, 0, none⟩)] w fun e w' => e = .returned (.agg (bv (macF key m)).toArray) ∧ Chg [] w w' := by
  have hN := (hS.sub (List.sublist_append_right M _)).self
  have hip := ipad_len key
  apply sha_Keyed_Sum_vc
  obtain ⟨g1, w1, r1, h1⟩ := (St.start w).zeroA d32Z
  have hN1 := hN.same h1.chg
  have hK1 := hK.keep0 h1.chg
  refine ⟨_, _, r1, g, 0, hN1.ldL (i := 0) (o := 0) rfl (pA _) rfl rfl, (hSum_spec (M := [_]) g _ _ a c hK1 hN1 (by rw [List.length_append, hip]; omega)).mono ?_⟩
  rintro e w2 ⟨rfl, hc2⟩
  have h2 := h1.same hc2
  obtain ⟨g3, w3, r3, h3⟩ := h2.zeroA d32Z
  obtain ⟨w4, r4, h4⟩ := h3.stA (i := 1) (v := bv (shaF (ipad key ++ m))) rfl (d32S _) (by simp) (by simp) (bv_one _)
  have h4d := h4.drew
  have hop := opad_len key
  obtain ⟨g5, w5, r5, h5⟩ := h4d.lit bbT [.slice (some ⟨gk, 1, none⟩) 64 64, .slice (some ⟨g3, 0, none⟩) 32 32] (by simp [Value.oneCell']) (by simp)
  have hN5 := hN.same h5.chg
  have q1 := hN5.rdAt1 (i := 0) rfl
  rw [hop] at q1
  have q2 : RdB w5 (some ⟨g3, 0, none⟩) 32 32 (shaF (ipad key ++ m)) := h5.rdA (i := 1) rfl (by simp)
  refine ⟨_, rfl, g3, w3, r3, w4, r4, by omega, by omega, by omega, by omega, _, _, _, _, r5, (shaSum_spec _ 2 2 _ [opad key, shaF (ipad key ++ m)] w5 (hK.keep0 h5.chg) (h5.rd (i := 2) rfl) (row2_two q1 q2) (by simp [hop]) (by decide)).mono ?_⟩
  rintro e w6 ⟨rfl, hc6⟩
  have hm : shaF [opad key, shaF (ipad key ++ m)].flatten = macF key m := by rw [macF_pads]; simp
  rw [hm]
  have h6 := h5.same hc6
  obtain ⟨w7, r7, h7⟩ := h6.stA (i := 0) (v := bv (macF key m)) rfl (d32S _) (by simp) (by simp) (bv_one _)
  exact ⟨_, rfl, w7, r7, _, h7.ldVarA (i := 0) (l := bv (macF key m)) rfl (d32A _) (d32S _) (by simp), rfl, h7.chg⟩

theorem newMac_spec (a : Option Addr) (n c : Nat) (key : List UInt8) (w : World) (hK : KTab w) (hr : RdB w a n c key) (hb : n ≤ 70368744170000) :
    Calls Tryd.prog 51 #[.slice a n c] w fun e w' => ∃ gk g a' c', e = .returned (.pointer (some ⟨gk, 0, none⟩)) ∧ St w [] w' (kM gk g key [] a' c') := by
  have hl := hr.lenB
  have hle := hr.le
  apply sha_NewMac_vc
  obtain ⟨g1, w1, r1, h1⟩ := (St.start w).zeroA o64Z
  refine ⟨_, _, r1, fun w' => St w [] w' [.arr g1 93 (bv (macK key))], ⟨fun h => ?_, fun h => ?_⟩, ?_⟩
  · have hn : 64 < key.length := by simp at h; omega
    obtain ⟨g2, w2, r2, h2⟩ := h1.lit bbT [.slice a n c] (by simp [Value.oneCell']) (by simp)
    refine ⟨_, _, _, _, r2, (shaSum_spec _ 1 1 _ [key] w2 (hK.keep0 h2.chg) (h2.rd (i := 1) rfl) (row2_one (h2.rd1 hr)) (by simp; omega) (by decide)).mono ?_⟩
    rintro e w3 ⟨rfl, hc3⟩
    have hk1 : shaF [key].flatten = shaF key := by simp
    rw [hk1]
    have h3 := h2.same hc3
    obtain ⟨g4, w4, r4, h4⟩ := h3.zeroA d32Z
    obtain ⟨w5, r5, h5⟩ := h4.stA (i := 2) (v := bv (shaF key)) rfl (d32S _) (by simp) (by simp) (bv_one _)
    have h5d := h5.drew
    obtain ⟨w6, r6, h6⟩ := h5d.copyB (i := 0) (d := 64) (n := 32) (c := 32) (a := some ⟨g4, 0, none⟩) (src := shaF key) rfl (by simp) (h5d.rdA (i := 2) rfl (by simp)) (by omega)
    refine ⟨_, rfl, g4, w4, r4, w5, r5, by omega, by omega, by omega, by omega, _, w6, r6, ?_⟩
    have hmk : macK key = shaF key ++ (List.replicate 64 0).drop 32 := by
      simp only [macK, if_pos hn, shaF_len]
      rfl
    rw [hmk]
    exact h6.sub (List.Sublist.cons_cons _ (List.nil_sublist _))
  · have hn : ¬ 64 < key.length := by simp at h; omega
    obtain ⟨w6, r6, h6⟩ := h1.copyB (i := 0) (d := 64) (n := n) (c := c) (a := a) (src := key) rfl (by simp) (h1.rd1 hr) (by omega)
    refine ⟨by omega, by omega, _, w6, r6, ?_⟩
    have hmk : macK key = key ++ (List.replicate 64 0).drop n := by
      simp only [macK, if_neg hn]
      rw [List.drop_replicate, hl]
    rw [hmk]
    exact h6
  rintro w8 h8
  obtain ⟨K, hKk⟩ : ∃ K, macK key = K := ⟨_, rfl⟩
  have hKl : K.length = 64 := by rw [← hKk]; exact macK_len key
  rw [hKk] at h8
  refine (shaNew_spec w8).mono ?_
  rintro e w9 ⟨g, rfl, hN9⟩
  have h9 : St w [] w9 ([.arr g1 93 (bv K)] ++ hM g 106 [] none 0) := by
    refine St.callPart (N := []) (w := w8) (by simpa using h8) ?_
    simpa [fpsL] using hN9
  obtain ⟨gk, w10, r10, h10⟩ := h9.boxA (P := Tryd.prog) 97 (kdL g (List.replicate 64 0))
  refine ⟨_, _, rfl, _, keyed_build g w9, gk, w10, r10, _, h10.ldA (i := 0) (l := bv K) rfl (o64A _) (o64S _) (by simp [hKl]), ?_⟩
  refine ⟨fun x w' => ∃ i : Nat, x = (i : Int) ∧ i ≤ 64 ∧ St w [] w' ([.arr g1 93 (bv (mixG (K.map (· ^^^ 0x36)) K i))] ++ hM g 106 [] none 0 ++ [.arr gk 97 (kdL g (mixG (K.map (· ^^^ 0x5c)) (List.replicate 64 0) i))]), fun x _ => 64 - x.toNat,
    ⟨0, rfl, by omega, by rw [mixG_zero, mixG_zero]; exact h10⟩, ?_⟩
  rintro x w11 ⟨i, rfl, hi, h11⟩
  have hm1 : (mixG (K.map (· ^^^ 0x36)) K i).length = 64 := by rw [mixG_len (by simp) (by omega)]; exact hKl
  have hm2 : (mixG (K.map (· ^^^ 0x5c)) (List.replicate 64 (0 : UInt8)) i).length = 64 := by rw [mixG_len (by simp [hKl]) (by simp; omega)]; simp
  refine ⟨fun h => ?_, fun h => ?_⟩
  · have hi' : i < 64 := by simp at h; omega
    have hb5 : (K.map (· ^^^ 0x5c))[i]? = some (K.getD i 0 ^^^ 0x5c) := by simp [List.getD, show i < K.length by omega]
    have hb3 : (K.map (· ^^^ 0x36))[i]? = some (K.getD i 0 ^^^ 0x36) := by simp [List.getD, show i < K.length by omega]
    have x5 : bxor .u8 ((K.getD i 0).toNat : Int) 92 = ((K.getD i 0 ^^^ 0x5c).toNat : Int) := xorc_val _ 0x5c
    have x3 : bxor .u8 ((K.getD i 0).toNat : Int) 54 = ((K.getD i 0 ^^^ 0x36).toNat : Int) := xorc_val _ 0x36
    obtain ⟨w12, r12, h12⟩ := h11.stL (i := 3) (o := 1 + i) (off := 1 + Int.toNat (i : Int) * 1) (v := .int .u8 ((K.getD i 0 ^^^ 0x5c).toNat : Int)) rfl (sB1 _) (by omega) (by rw [kdL, List.length_cons, bv_length, hm2]; omega) rfl
    have hset : (kdL g (mixG (K.map (· ^^^ 0x5c)) (List.replicate 64 0) i)).set (1 + i) (.int .u8 ((K.getD i 0 ^^^ 0x5c).toNat : Int)) = kdL g (mixG (K.map (· ^^^ 0x5c)) (List.replicate 64 0) (i + 1)) := by
      rw [kdL, Nat.add_comm 1 i, List.set_cons_succ, bv_set, mixG_set (by simp [hKl]) hb5]; rfl
    rw [hset] at h12
    have h12' : St w [] w12 ([.arr g1 93 (bv (mixG (K.map (· ^^^ 0x36)) K i))] ++ hM g 106 [] none 0 ++ [.arr gk 97 (kdL g (mixG (K.map (· ^^^ 0x5c)) (List.replicate 64 0) (i + 1)))]) := h12
    obtain ⟨w13, r13, h13⟩ := h12'.stB (i := 0) (o := i) (off := 0 + Int.toNat (i : Int) * 1) (b := K.getD i 0 ^^^ 0x36) rfl (sB1 _) (by omega) (by omega)
    rw [mixG_set (by simp) hb3] at h13
    refine ⟨_, ixArr (cs := bv K) Tryd.underlying93 (sB1 _) (bA _) hi' (bv_getD (by omega)), by omega, by omega, w12, by rw [x5]; exact r12, by omega, by omega, w13, by rw [x3]; exact r13, ⟨i + 1, wrap_succ hi' (by omega), by omega, h13⟩, mu_succ hi' (by omega)⟩
  · have hi' : i = 64 := by simp at h; omega
    have f1 : mixG (K.map (· ^^^ 0x36)) K i = ipad key := by
      have := mixG_all (x := K.map (· ^^^ 0x36)) (l := K) (by simp)
      rw [hKl] at this; rw [hi', this, ipad, hKk]
    have f2 : mixG (K.map (· ^^^ 0x5c)) (List.replicate 64 (0 : UInt8)) i = opad key := by
      have := mixG_all (x := K.map (· ^^^ 0x5c)) (l := List.replicate 64 (0 : UInt8)) (by simp [hKl])
      rw [List.length_replicate] at this; rw [hi', this, opad, hKk]
    rw [f1, f2] at h11
    clear f1 f2 hm1 hm2 h hi hi'
    have hip := ipad_len key
    obtain ⟨g14, w14, r14, h14⟩ := h11.lit bbT [.slice (some ⟨g1, 0, none⟩) 64 64] (by simp [Value.oneCell']) (by simp)
    have hP : List.Perm ([Res.arr g1 93 (bv (ipad key))] ++ hM g 106 [] none 0 ++ [Res.arr gk 97 (kdL g (opad key))] ++ [Res.row 23 1 (.slice (some ⟨g14, 0, none⟩) 1 1) 1 [.slice (some ⟨g1, 0, none⟩) 64 64]])
        (([Res.row 23 1 (.slice (some ⟨g14, 0, none⟩) 1 1) 1 [.slice (some ⟨g1, 0, none⟩) 64 64], Res.arr g1 93 (bv (ipad key))] ++ [Res.arr gk 97 (kdL g (opad key))]) ++ hM g 106 [] none 0) := by
      refine List.perm_append_comm.trans ?_
      refine List.Perm.cons _ ?_
      refine List.Perm.cons _ ?_
      exact List.perm_append_comm
    have h14' := h14.perm hP
    have hkp : ∀ w', Chg (fpsL (hM g 106 [] none 0)) w14 w' → Rd w' (some ⟨g14, 0, none⟩) 1 1 1 [.slice (some ⟨g1, 0, none⟩) 64 64] ∧ RdB w' (some ⟨g1, 0, none⟩) 64 64 (ipad key) := fun w' hc => by
      have q1 : Res.holds w' (Res.row 23 1 (.slice (some ⟨g14, 0, none⟩) 1 1) 1 [.slice (some ⟨g1, 0, none⟩) 64 64]) := h14'.keptPart (by simp) hc
      have q2 : Res.holds w' (Res.arr g1 93 (bv (ipad key))) := h14'.keptPart (by simp) hc
      exact ⟨ownsRow_rd q1, (St.ofBlk (o := .cells (bv (ipad key)).toArray 93) q2).rdA (i := 0) rfl (by simp [hip])⟩
    -- the inner pad is the first that is written
    refine ⟨by omega, by omega, _, _, _, _, r14, ?_⟩
    apply sha_Keyed_Write_vc
    have hNk := h14'.sub (List.sublist_append_left _ _)
    refine ⟨g, 0, hNk.ldL (i := 2) (o := 0) rfl (pA _) rfl rfl, (hWrite_spec g _ [] none 0 _ 1 1 _ [ipad key] hK (by simp) h14' ⟨fun w' hc => (hkp w' hc).1, fun w' hc => row2_one (hkp w' hc).2⟩ (by simp [hip]) (by decide)).mono ?_⟩
    rintro e w15 ⟨rfl, a15, c15, h15, _⟩
    have e1 : [] ++ [ipad key].flatten = ipad key ++ [] := by simp
    rw [e1, List.append_assoc] at h15
    exact ⟨rfl, rfl, gk, g, a15, c15, rfl, h15.sub (List.sublist_append_right _ _)⟩

theorem mac_spec (a : Option Addr) (n c : Nat) (key : List UInt8) (a1 : Option Addr) (n1 c1 : Nat) (vs : List Value) (ls : List (List UInt8)) (w : World) (hK : KTab w) (hr : RdB w a n c key) (hb : n ≤ 70368744170000) (hr1 : Rd w a1 n1 c1 1 vs) (h2 : Row2 w vs ls) (hb1 : ls.flatten.length ≤ 70368744170000) (hn1 : n1 ≤ 4611686018427387904) :
    Calls Tryd.prog 38 #[.slice a n c, .slice a1 n1 c1] w fun e w' => e = .returned (.agg (bv (macF key ls.flatten)).toArray) ∧ Chg [] w w' := by
  apply sha_Mac_vc
  obtain ⟨g1, w1, r1, h1⟩ := (St.start w).zeroA d32Z
  refine ⟨_, _, r1, (newMac_spec a n c key w1 (hK.keep0 h1.chg) (h1.rd1 hr) hb).mono ?_⟩
  rintro e w2 ⟨gk, g, a2, c2, rfl, hN2⟩
  have h2' : St w [] w2 ([.arr g1 22 (bv (List.replicate 32 0))] ++ kM gk g key [] a2 c2) := by
    refine St.callPart (N := []) (w := w1) (by simpa using h1) ?_
    simpa [fpsL] using hN2
  have hNh : St w [] w2 (hM g 106 (ipad key ++ []) a2 c2) := h2'.sub ((List.sublist_append_right [_, _] _))
  refine ⟨gk, 0, rfl, (kWrite_spec gk g key [] a2 c2 a1 n1 c1 vs ls hK (by simp) h2' (partsK_old hNh hr1 h2) (by simp only [List.length_nil]; omega) hn1).mono ?_⟩
  rintro e w3 ⟨rfl, a3, c3, h3, _⟩
  rw [List.nil_append] at h3
  refine ⟨rfl, (kSum_spec gk g key _ a3 c3 (hK.keep0 h3.chg) h3 hb1).mono ?_⟩
  rintro e w4 ⟨rfl, hc4⟩
  have h4 := h3.same hc4
  obtain ⟨w5, r5, h5⟩ := h4.stA (i := 0) (v := bv (macF key ls.flatten)) rfl (d32S _) (by simp) (by simp) (bv_one _)
  exact ⟨_, rfl, w5, r5, _, h5.ldVarA (i := 0) (l := bv (macF key ls.flatten)) rfl (d32A _) (d32S _) (by simp), rfl, h5.chg⟩

end Go.Proofs.YtefnlbgkfingfaaDoor
