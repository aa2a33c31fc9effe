/- The law ShaStreams answers true (conditions: the table lies where the program laid it). -/
import Derived.Test.YtpodhfomjljfbaaDoorShaS
namespace Go.Proofs.YtpodhfomjljfbaaDoor
open Go Sx

theorem permHK (M H K : List Res) : (M ++ (H ++ K)).Perm ((M ++ K) ++ H) := by
  rw [List.append_assoc]; exact List.perm_append_comm.append_left M
theorem permEnd (M N : List Res) (r : Res) : ((M ++ N) ++ [r]).Perm ((M ++ [r]) ++ N) := by
  rw [List.append_assoc, List.append_assoc]; exact List.perm_append_comm.append_left M

theorem hPut {w0 w : World} {M K : List Res} (g T : Nat) (m : List UInt8) (a : Option Addr) (c : Nat) (a1 : Option Addr) (n1 c1 : Nat) (vs : List Value) (ls : List (List UInt8)) (hK : KTab w0) (hS : St w0 [] w (M ++ (hM g T m a c ++ K)))
    (hp : ∀ w', (∀ r ∈ M, r.holds w') → Rd w' a1 n1 c1 1 vs ∧ Row2 w' vs ls) (hb : m.length + ls.flatten.length ≤ 140737488350000) (hn : n1 ≤ 4611686018427387904) :
    Calls Tryd.prog 22 #[.pointer (some ⟨g, 0, none⟩), .slice a1 n1 c1] w fun e w' => e = .returned (.tuple #[]) ∧ ∃ a' c', St w0 [] w' (M ++ (hM g T (m ++ ls.flatten) a' c' ++ K)) := by
  have h1 := hS.perm (permHK _ _ _)
  have hk : ∀ w', Chg (fpsL (hM g T m a c)) w w' → ∀ r ∈ M, r.holds w' := fun w' hc r hr => h1.keptPart (List.mem_append_left _ hr) hc
  refine (hWrite_spec g T m a c a1 n1 c1 vs ls hK (by simp) h1 ⟨fun w' hc => (hp w' (hk w' hc)).1, fun w' hc => (hp w' (hk w' hc)).2⟩ hb hn).mono ?_
  rintro e w' ⟨rfl, a', c', h2, _⟩
  exact ⟨rfl, a', c', h2.perm (permHK _ _ _).symm⟩

theorem kPut {w0 w : World} {M H : List Res} (gk g : Nat) (key m : List UInt8) (a : Option Addr) (c : Nat) (a1 : Option Addr) (n1 c1 : Nat) (vs : List Value) (ls : List (List UInt8)) (hK : KTab w0) (hS : St w0 [] w (M ++ (H ++ kM gk g key m a c)))
    (hp : ∀ w', (∀ r ∈ M, r.holds w') → Rd w' a1 n1 c1 1 vs ∧ Row2 w' vs ls) (hb : m.length + ls.flatten.length ≤ 140737488340000) (hn : n1 ≤ 4611686018427387904) :
    Calls Tryd.prog 23 #[.pointer (some ⟨gk, 0, none⟩), .slice a1 n1 c1] w fun e w' => e = .returned (.tuple #[]) ∧ ∃ a' c', St w0 [] w' (M ++ (H ++ kM gk g key (m ++ ls.flatten) a' c')) := by
  have h1 : St w0 [] w ((M ++ H) ++ kM gk g key m a c) := by rw [List.append_assoc]; exact hS
  have h1' : St w0 [] w (((M ++ H) ++ [.arr gk 70 (kdL g (opad key))]) ++ hM g 67 (ipad key ++ m) a c) := by rw [List.append_assoc]; exact h1
  have hk : ∀ w', Chg (fpsL (hM g 67 (ipad key ++ m) a c)) w w' → ∀ r ∈ M, r.holds w' := fun w' hc r hr => h1'.keptPart (List.mem_append_left _ (List.mem_append_left _ hr)) hc
  refine (kWrite_spec gk g key m a c a1 n1 c1 vs ls hK (by simp) h1 ⟨fun w' hc => (hp w' (hk w' hc)).1, fun w' hc => (hp w' (hk w' hc)).2⟩ hb hn).mono ?_
  rintro e w' ⟨rfl, a', c', h2, _⟩
  rw [List.append_assoc] at h2
  exact ⟨rfl, a', c', h2⟩

theorem Sx.St.lost {w0 w w' : World} {M : List Res} {g : Nat} {o : Obj} (h : St w0 [] w (M ++ [.blk g o])) (hc : Chg [g] w w') : St w0 [] w' M := by
  have h2 : St w (fpsL [.blk g o]) w' [] := St.of_mem (X := [g]) hc (by simp) (by simp) (by simp)
  have := h.callPart h2
  rwa [List.append_nil] at this

theorem MarkB.of_blk {w w' : World} {g n c : Nat} {l : List UInt8} {cur : Array Value} (h : MarkB w g n c l cur) (hb : w'.heap[g]? = some (.cells cur 5 (0, 0))) : MarkB w' g n c l cur := ⟨hb, h.len, h.le, h.size, h.cells, h.cm⟩

theorem shaStreams_walk (a0 : Option Addr) (n0 c0 : Nat) (key : List UInt8) (a1 : Option Addr) (n1 c1 : Nat) (vs : List Value) (ls : List (List UInt8)) (x : Int) (w : World) (hK : KTab w) (hr0 : RdB w a0 n0 c0 key) (hr1 : Rd w a1 n1 c1 1 vs) (h21 : Row2 w vs ls) :
    Calls Tryd.prog 5 #[.slice a0 n0 c0, .slice a1 n1 c1, .int .i64 x] w fun e w' => e = .returned (.bool true) ∧ Chg [] w w' := by
  have e0 := hr0.lenB
  have hln : ls.length = n1 := by have := hr1.len; have := h21.len; omega
  apply amphoralaw02_ShaStreams_vc
  refine (alive_spec w hK).mono ?_
  rintro e w1 ⟨rfl, hc1⟩
  refine ⟨_, rfl, fun h => by simp at h, fun _ => ⟨fun b w' => Chg [] w w' ∧ (b = false → n0 ≤ 65536 ∧ n1 ≤ 60 ∧ ls.flatten.length ≤ 16384), ?_, ?_⟩⟩
  · obtain ⟨g2, w2, r2, h2⟩ := ((St.start w).same hc1).lit bbT [.slice a0 n0 c0] (by simp [Value.oneCell']) (by simp)
    refine ⟨_, _, _, _, r2, (large_spec _ 1 1 _ [key] w2 (h2.rd (i := 0) rfl) (row2_one (h2.rd1 hr0)) (by decide)).mono ?_⟩
    rintro e w3 ⟨rfl, rfl⟩
    refine ⟨_, rfl, fun _ => ⟨h2.chg, fun h => by cases h⟩, fun h => ?_⟩
    have hsm : n0 ≤ 65536 ∧ n1 ≤ 60 := by
      simp only [List.flatten_cons, List.flatten_nil, List.append_nil, Bool.or_eq_false_iff, decide_eq_false_iff_not] at h
      omega
    clear h
    refine (sum_spec a1 n1 c1 vs ls 1048576 w3 (hr1.keep0 h2.chg) (h21.keep0 h2.chg) (by decide) (by omega)).mono ?_
    rintro e w4 ⟨rfl, rfl⟩
    refine ⟨_, rfl, h2.chg, fun h => ⟨hsm.1, hsm.2, ?_⟩⟩
    simp only [gt_iff_lt, decide_eq_false_iff_not] at h
    split at h <;> omega
  rintro b w5 ⟨hc5, hb⟩
  refine ⟨fun _ => ⟨rfl, hc5⟩, fun h => ?_⟩
  obtain ⟨hb0, hb1, hbf⟩ := hb h
  clear hb h
  refine (copy_spec a0 n0 c0 key w5 (hr0.keep0 hc5) (by omega)).mono ?_
  rintro e w6 ⟨g6, c6, cur6, rfl, hc6, hg6, hm6⟩
  have h6 : St w [] w6 ([] ++ [.blk g6 (.cells cur6 5 (0, 0))]) := ((St.start w).same hc5).add hc6 hm6.blk (by simpa [Res.fp] using hg6)
  refine ⟨_, _, _, rfl, (shaNew_spec w6).mono ?_⟩
  rintro e w7 ⟨gh, rfl, h7⟩
  have h7' : St w [] w7 ([.blk g6 (.cells cur6 5 (0, 0))] ++ hM gh 67 [] none 0) := St.callPart (N := []) (w := w6) (by simpa using h6) (by simpa [fpsL] using h7)
  have hm7 : MarkB w7 g6 n0 c6 key cur6 := hm6.of_blk (h7'.holds 0 _ rfl)
  refine ⟨gh, 0, rfl, (newMac_spec _ n0 c6 key w7 (hK.keep0 h7'.chg) hm7.rd (by omega)).mono ?_⟩
  rintro e w8 ⟨gk, g, a8, c8, rfl, h8⟩
  have h8' : St w [] w8 (([.blk g6 (.cells cur6 5 (0, 0))] ++ hM gh 67 [] none 0) ++ kM gk g key [] a8 c8) := St.callPart (N := []) (w := w7) (by rw [List.append_nil]; exact h7') (by simpa [fpsL] using h8)
  have hm8 : MarkB w8 g6 n0 c6 key cur6 := hm6.of_blk (h8'.holds 0 _ rfl)
  refine ⟨gk, 0, rfl, (over_spec _ n0 c6 key w8 (hm8.row (Nat.zero_le _)) (by omega)).mono ?_⟩
  rintro e w9 ⟨rfl, hc9⟩
  have h8p : St w [] w8 ((hM gh 67 [] none 0 ++ kM gk g key [] a8 c8) ++ [.blk g6 (.cells cur6 5 (0, 0))]) := by
    rw [List.append_assoc] at h8'
    exact h8'.perm List.perm_append_comm
  have h9 := h8p.lost hc9
  obtain ⟨g10, w10, r10, h10⟩ := h9.lit bT [] (by simp) (by simp)
  have h10' := h10.perm List.perm_append_comm
  refine ⟨rfl, _, _, _, _, r10, fun xa xn xc y w' => ∃ (i : Nat) (a : Option Addr) (c : Nat) (a' : Option Addr) (c' : Nat), y = (i : Int) ∧ i ≤ n1 ∧ xn = (ls.take i).flatten.length ∧ St w [] w' ([.row 5 1 (.slice xa xn xc) xn (bv (ls.take i).flatten)] ++ (hM gh 67 (ls.take i).flatten a c ++ kM gk g key (ls.take i).flatten a' c')), fun _ _ _ y _ => n1 - y.toNat,
    ⟨0, none, 0, a8, c8, rfl, by omega, by simp, by simpa using h10'⟩, ?_⟩
  rintro xa xn xc y w11 ⟨i, ah, ch, ak, ck, rfl, hi, rfl, h11⟩
  have hft := flat_take_le ls i
  refine ⟨fun h => ?_, fun h => ?_⟩
  · have hi' : i < n1 := by simp at h; omega
    obtain ⟨b, o, a', n', c', ha, hv, hrd, hld⟩ := ixS hr1.cells h21 (i := i) (by omega)
    have hl' := hrd.lenB
    have hf1 := flat_take (ls := ls) (i := i) (by omega)
    have hf2 := flat_take_le ls (i + 1)
    have hf3 := congrArg List.length hf1
    rw [List.length_append, hl'] at hf3
    obtain ⟨p, hp⟩ : ∃ p, ls.getD i [] = p := ⟨_, rfl⟩
    obtain ⟨m, hm⟩ : ∃ m, (ls.take i).flatten = m := ⟨_, rfl⟩
    rw [hp, hm] at hf1
    rw [hp] at hrd hl'
    rw [hm] at h11 hf3 hft ⊢
    refine ⟨b, o, ha, by omega, by omega, a', n', c', hld w11 (hr1.cells.keep0 h11.chg), (copy_spec a' n' c' p w11 (h11.rd1 hrd) (by omega)).mono ?_⟩
    rintro e w12 ⟨g12, c12, cur12, rfl, hc12, hg12, hm12⟩
    have h12a := (h11.add hc12 (r := .blk g12 (.cells cur12 5 (0, 0))) hm12.blk (by simpa [Res.fp] using hg12)).perm (permEnd _ _ _)
    have hle12 := hm12.le
    -- what stands in the mine of the copy
    have one : ∀ (w' : World) (gl : Nat),
        (∀ r ∈ (([.row 5 1 (.slice xa m.length xc) m.length (bv m)] ++ [.blk g12 (.cells cur12 5 (0, 0))]) ++ [Res.row 22 1 (.slice (some ⟨gl, 0, none⟩) 1 1) 1 [.slice (some ⟨g12, 0, none⟩) n' c12]]), r.holds w') →
        Rd w' (some ⟨gl, 0, none⟩) 1 1 1 [.slice (some ⟨g12, 0, none⟩) n' c12] ∧ Row2 w' [.slice (some ⟨g12, 0, none⟩) n' c12] [p] := fun w' gl hh =>
      ⟨ownsRow_rd (hh (.row 22 1 (.slice (some ⟨gl, 0, none⟩) 1 1) 1 [.slice (some ⟨g12, 0, none⟩) n' c12]) (by simp)), row2_one (hm12.of_blk (hh (.blk g12 (.cells cur12 5 (0, 0))) (by simp))).rd⟩
    refine ⟨_, _, _, rfl, fun w' => ∃ (a : Option Addr) (c : Nat) (a' : Option Addr) (c' : Nat), St w [] w' (([.row 5 1 (.slice xa m.length xc) m.length (bv m)] ++ [.blk g12 (.cells cur12 5 (0, 0))]) ++ (hM gh 67 m a c ++ kM gk g key (m ++ p) a' c')), ⟨fun _ => ?_, fun _ => ?_⟩, ?_⟩
    · refine (hPut gh _ m ah ch none 0 0 [] [] hK h12a (fun w' _ => ⟨⟨Cells.nil _ _, rfl, Nat.le_refl _, fun _ => rfl⟩, Row2.nil _⟩) (by simp; omega) (by decide)).mono ?_
      rintro e w13 ⟨rfl, a13, c13, h13⟩
      have e1 : m ++ ([] : List (List UInt8)).flatten = m := by simp
      rw [e1] at h13
      have hd2 : IntKind.wrap .i64 (Int.tdiv (n' : Int) 2) = ((n' / 2 : Nat) : Int) := by
        rw [show Int.tdiv (n' : Int) 2 = ((n' / 2 : Nat) : Int) from rfl, wrap_i64 (by omega) (by omega)]
      rw [hd2]
      refine ⟨rfl, by omega, by omega, by omega, by omega, by omega, fun t61a hs61 => ?_⟩
      rw [Int.toNat_natCast] at hs61 ⊢
      obtain ⟨g14, w14, r14, h14⟩ := h13.drew.lit bbT [.slice (some ⟨g12, 0, none⟩) (n' / 2) c12, .slice t61a (n' - n' / 2) (c12 - n' / 2)] (by simp [Value.oneCell']) (by simp)
      have h14' := h14.perm (permEnd _ _ _)
      refine ⟨_, _, _, _, r14, (kPut gk g key m ak ck _ 2 2 _ [p.take (n' / 2), p.drop (n' / 2)] hK h14' (fun w' hh => ⟨ownsRow_rd (hh (.row 22 1 (.slice (some ⟨g14, 0, none⟩) 2 2) 2 [.slice (some ⟨g12, 0, none⟩) (n' / 2) c12, .slice t61a (n' - n' / 2) (c12 - n' / 2)]) (by simp)), ?_⟩) (by simp; omega) (by decide)).mono ?_⟩
      · have hmk := (hm12.of_blk (hh (.blk g12 (.cells cur12 5 (0, 0))) (by simp))).rd
        have hsub := hmk.sub hs61 (hh := n') (by omega) (Nat.le_refl _) (by omega) (by omega)
        have e1 : ((bv p).drop (n' / 2 * 1)).take ((n' - n' / 2) * 1) = bv (p.drop (n' / 2)) := by
          rw [Nat.mul_one, Nat.mul_one, List.take_of_length_le (by simp; omega), bv_drop]
        rw [e1] at hsub
        exact row2_two (rdB_upto hmk (by omega)) hsub
      rintro e w15 ⟨rfl, a15, c15, h15⟩
      have e2 : m ++ [p.take (n' / 2), p.drop (n' / 2)].flatten = m ++ p := by simp
      rw [e2] at h15
      exact ⟨rfl, a13, c13, a15, c15, h15.sub (List.Sublist.append (List.sublist_append_left _ _) (List.Sublist.refl _))⟩
    · obtain ⟨g14, w14, r14, h14⟩ := h12a.lit bbT [.slice (some ⟨g12, 0, none⟩) n' c12] (by simp [Value.oneCell']) (by simp)
      have h14' := h14.perm (permEnd _ _ _)
      refine ⟨_, _, _, _, r14, (kPut gk g key m ak ck _ 1 1 _ [p] hK h14' (fun w' hh => one w' g14 hh) (by simp; omega) (by decide)).mono ?_⟩
      rintro e w15 ⟨rfl, a15, c15, h15⟩
      have e2 : m ++ [p].flatten = m ++ p := by simp
      rw [e2] at h15
      exact ⟨rfl, ah, ch, a15, c15, h15.sub (List.Sublist.append (List.sublist_append_left _ _) (List.Sublist.refl _))⟩
    rintro w16 ⟨a16, c16, a17, c17, h16⟩
    obtain ⟨g18, w18, r18, h18⟩ := h16.lit bbT [.slice (some ⟨g12, 0, none⟩) n' c12] (by simp [Value.oneCell']) (by simp)
    have h18' := h18.perm (permEnd _ _ _)
    refine ⟨_, _, _, _, r18, (hPut gh _ m a16 c16 _ 1 1 _ [p] hK h18' (fun w' hh => one w' g18 hh) (by simp; omega) (by decide)).mono ?_⟩
    rintro e w19 ⟨rfl, a19, c19, h19⟩
    have e2 : m ++ [p].flatten = m ++ p := by simp
    rw [e2] at h19
    have h19a := h19.sub (List.Sublist.append (List.sublist_append_left _ _) (List.Sublist.refl _))
    have hm19 : MarkB w19 g12 n' c12 p cur12 := hm12.of_blk (h19a.holds 1 _ rfl)
    refine ⟨rfl, (kept_spec _ _ _ _ _ _ _ _ _ hm19 (h19a.rd1 hrd) (by omega)).mono ?_⟩
    rintro e w20 ⟨rfl, rfl⟩
    refine ⟨_, rfl, fun h => by simp at h, fun _ => (over_spec _ n' c12 p w20 (hm19.row (Nat.zero_le _)) (by omega)).mono ?_⟩
    rintro e w21 ⟨rfl, hc21⟩
    have h19b := h19a.perm (permEnd _ _ _).symm
    have h21' := h19b.lost hc21
    obtain ⟨va, vc, w22, r22, h22⟩ := h21'.appendB (i := 0) rfl (h21'.rd1 hrd) (by omega)
    have h22' : St w [] w22 ([.row 5 1 (.slice va (m.length + n') vc) (m.length + n') (bv (m ++ p))] ++ (hM gh 67 (m ++ p) a19 c19 ++ kM gk g key (m ++ p) a17 c17)) := h22
    have hmp : (m ++ p).length = m.length + n' := by rw [List.length_append, hl']
    have hrow : ∀ w', Chg [] w22 w' → RdB w' va (m.length + n') vc (m ++ p) := fun w' h => (h22'.same h).rd (i := 0) rfl
    have hHS : ∀ w', Chg [] w22 w' → St w [] w' (([.row 5 1 (.slice va (m.length + n') vc) (m.length + n') (bv (m ++ p))] ++ kM gk g key (m ++ p) a17 c17) ++ hM gh 67 (m ++ p) a19 c19) := fun w' h => (h22'.same h).perm (permHK _ _ _)
    have hKS : ∀ w', Chg [] w22 w' → St w [] w' (([.row 5 1 (.slice va (m.length + n') vc) (m.length + n') (bv (m ++ p))] ++ hM gh 67 (m ++ p) a19 c19) ++ kM gk g key (m ++ p) a17 c17) := fun w' h => by
      rw [List.append_assoc]; exact h22'.same h
    have hz := Chg.refl [] w22
    have hfl : [m ++ p].flatten = m ++ p := by simp
    refine ⟨rfl, _, _, _, _, r22, fun b w' => b = false ∧ Chg [] w22 w', (hLen_spec gh _ _ _ _ (hHS _ hz)).mono ?_, ?_⟩
    · rintro e w23 ⟨rfl, rfl⟩
      refine ⟨_, rfl, fun h => by simp [hl'] at h, fun _ => (kLen_spec gk g key _ _ _ (hKS _ hz) (by omega)).mono ?_⟩
      rintro e w23 ⟨rfl, rfl⟩
      refine ⟨_, rfl, fun h => by simp [hl'] at h, fun _ => ⟨fun _ => ?_, fun _ => ⟨rfl, hz⟩⟩⟩
      refine (hSum_spec gh _ _ _ _ (hK.keep0 h22'.chg) (hHS _ hz) (by omega)).mono ?_
      rintro e w24 ⟨rfl, d24⟩
      obtain ⟨g25, w25, r25, h25⟩ := (St.start w24).lit bbT [.slice va (m.length + n') vc] (by simp [Value.oneCell']) (by simp)
      have d25 := d24.trans h25.chg
      refine ⟨_, rfl, _, _, _, _, r25, (shaSum_spec _ 1 1 _ [m ++ p] w25 (hK.keep0 (h22'.chg.trans d25)) (h25.rd (i := 0) rfl) (row2_one (hrow _ d25)) (by rw [hfl]; omega) (by decide)).mono ?_⟩
      rintro e w26 ⟨rfl, hc26⟩
      have d26 := d25.trans hc26
      rw [hfl]
      refine ⟨_, rfl, _, neD _ _ _ (by simp) _, fun h => (by cases h), fun _ => (kSum_spec gk g key _ _ _ (hK.keep0 (h22'.chg.trans d26)) (hKS _ d26) (by omega)).mono ?_⟩
      rintro e w27 ⟨rfl, hc27⟩
      have d27 := d26.trans hc27
      obtain ⟨g28, w28, r28, h28⟩ := (St.start w27).lit bbT [.slice va (m.length + n') vc] (by simp [Value.oneCell']) (by simp)
      have d28 := d27.trans h28.chg
      refine ⟨_, rfl, _, _, _, _, r28, (mac_spec a0 n0 c0 key _ 1 1 _ [m ++ p] w28 (hK.keep0 (h22'.chg.trans d28)) (hr0.keep0 (h22'.chg.trans d28)) (by omega) (h28.rd (i := 0) rfl) (row2_one (hrow _ d28)) (by rw [hfl]; omega) (by decide)).mono ?_⟩
      rintro e w29 ⟨rfl, hc29⟩
      rw [hfl]
      exact ⟨_, rfl, _, neD _ _ _ (by simp) _, rfl, d28.trans hc29⟩
    rintro b w30 ⟨rfl, d30⟩
    refine ⟨fun h => (by cases h), fun _ => ⟨⟨i + 1, a19, c19, a17, c17, wrap_succ hi' (by omega), by omega, ?_, ?_⟩, mu_succ hi' (by omega)⟩⟩
    · rw [hf1, hmp]
    · rw [hf1]
      exact h22'.same d30
  · have hi' : i = n1 := by simp at h; omega
    have ht : ls.take i = ls := by rw [hi', ← hln, List.take_length]
    rw [ht] at h11 ⊢
    obtain ⟨m, hm⟩ : ∃ m, ls.flatten = m := ⟨_, rfl⟩
    rw [hm] at h11 hbf ⊢
    have hHS : ∀ w', Chg [] w11 w' → St w [] w' (([.row 5 1 (.slice xa m.length xc) m.length (bv m)] ++ kM gk g key m ak ck) ++ hM gh 67 m ah ch) := fun w' h => (h11.same h).perm (permHK _ _ _)
    have hKS : ∀ w', Chg [] w11 w' → St w [] w' (([.row 5 1 (.slice xa m.length xc) m.length (bv m)] ++ hM gh 67 m ah ch) ++ kM gk g key m ak ck) := fun w' h => by
      rw [List.append_assoc]; exact h11.same h
    have hrow : ∀ w', Chg [] w11 w' → RdB w' xa m.length xc m := fun w' h => (h11.same h).rd (i := 0) rfl
    have hz := Chg.refl [] w11
    have hfl : [m].flatten = m := by simp
    refine (hSum_spec gh _ _ _ _ (hK.keep0 h11.chg) (hHS _ hz) (by omega)).mono ?_
    rintro e w24 ⟨rfl, d24⟩
    obtain ⟨g25, w25, r25, h25⟩ := (St.start w24).lit bbT [.slice xa m.length xc] (by simp [Value.oneCell']) (by simp)
    have d25 := d24.trans h25.chg
    refine ⟨_, rfl, _, _, _, _, r25, (rsum_spec _ 1 1 _ [m] w25 (h25.rd (i := 0) rfl) (row2_one (hrow _ d25)) (by rw [hfl]; omega) (by decide)).mono ?_⟩
    rintro e w26 ⟨rfl, hc26⟩
    have d26 := d25.trans hc26
    rw [hfl]
    refine ⟨_, rfl, _, eqD _ _ _ (by simp) _, fun _ => (kSum_spec gk g key _ _ _ (hK.keep0 (h11.chg.trans d26)) (hKS _ d26) (by omega)).mono ?_, fun h => by cases h⟩
    rintro e w27 ⟨rfl, hc27⟩
    have d27 := d26.trans hc27
    obtain ⟨g28, w28, r28, h28⟩ := (St.start w27).lit bbT [.slice xa m.length xc] (by simp [Value.oneCell']) (by simp)
    have d28 := d27.trans h28.chg
    refine ⟨_, rfl, _, _, _, _, r28, (rmac_spec a0 n0 c0 key _ 1 1 _ [m] w28 (hr0.keep0 (h11.chg.trans d28)) (by omega) (h28.rd (i := 0) rfl) (row2_one (hrow _ d28)) (by rw [hfl]; omega) (by decide)).mono ?_⟩
    rintro e w29 ⟨rfl, hc29⟩
    have d29 := d28.trans hc29
    rw [hfl]
    refine ⟨_, rfl, _, eqD _ _ _ (by simp) _, fun _ => (hSum_spec gh _ _ _ _ (hK.keep0 (h11.chg.trans d29)) (hHS _ d29) (by omega)).mono ?_, fun h => by cases h⟩
    rintro e w30 ⟨rfl, hc30⟩
    have d30 := d29.trans hc30
    refine ⟨_, rfl, (shaSum_spec a1 n1 c1 vs ls w30 (hK.keep0 (h11.chg.trans d30)) (hr1.keep0 (h11.chg.trans d30)) (h21.keep0 (h11.chg.trans d30)) (by rw [hm]; omega) (by omega)).mono ?_⟩
    rintro e w31 ⟨rfl, hc31⟩
    have d31 := d30.trans hc31
    rw [hm]
    refine ⟨_, rfl, _, eqD _ _ _ (by simp) _, fun _ => (kSum_spec gk g key _ _ _ (hK.keep0 (h11.chg.trans d31)) (hKS _ d31) (by omega)).mono ?_, fun h => by cases h⟩
    rintro e w32 ⟨rfl, hc32⟩
    have d32 := d31.trans hc32
    refine ⟨_, rfl, (mac_spec a0 n0 c0 key a1 n1 c1 vs ls w32 (hK.keep0 (h11.chg.trans d32)) (hr0.keep0 (h11.chg.trans d32)) (by omega) (hr1.keep0 (h11.chg.trans d32)) (h21.keep0 (h11.chg.trans d32)) (by rw [hm]; omega) (by omega)).mono ?_⟩
    rintro e w33 ⟨rfl, hc33⟩
    rw [hm]
    exact ⟨_, rfl, _, eqD _ _ _ (by simp) _, rfl, h11.chg.trans (d32.trans hc33)⟩

end Go.Proofs.YtpodhfomjljfbaaDoor
