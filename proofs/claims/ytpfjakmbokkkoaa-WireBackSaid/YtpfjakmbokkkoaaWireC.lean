/- The contract of wire.Unpack (conditions: those that each theorem names). -/
import Derived.Test.YtpfjakmbokkkoaaWireB
import Derived.Test.YtpfjakmbokkkoaaApart
namespace Go.Proofs.Ytpfjakmbokkkoaa
open Go Sx

/-- What n fields are. -/
def unpackF : Nat → List UInt8 → Option (List (List UInt8))
  | 0, l => if l = [] then some [] else none
  | k + 1, l => (fieldF l).bind fun p => (unpackF k p.2).map (p.1 :: ·)

def unpackZ (x : Int) (l : List UInt8) : Option (List (List UInt8)) := if x < 0 then none else unpackF x.toNat l

/-- Lists in rows of their own, in a row of its own. -/
structure OwnL (w w' : World) (a : Option Addr) (n c : Nat) (vs : List Value) (ls : List (List UInt8)) : Prop where
  st : St w [] w' (.row 22 1 (.slice a n c) n vs :: rowsL vs ls) 
  len : vs.length = ls.length
  hd : ∀ i, i < ls.length → ∃ a c, vs[i]? = some (.slice a (ls.getD i []).length c)

theorem rowsL_snoc {vs : List Value} {ls : List (List UInt8)} (h : vs.length = ls.length) (v : Value) (l : List UInt8) : rowsL (vs ++ [v]) (ls ++ [l]) = rowsL vs ls ++ [.row 5 1 v l.length (bv l)] := by
  rw [rowsL, List.zipWith_append h]; rfl

theorem hd_snoc {vs : List Value} {ls : List (List UInt8)} (h : vs.length = ls.length) (hd : ∀ i, i < ls.length → ∃ a c, vs[i]? = some (.slice a (ls.getD i []).length c)) (a : Option Addr) (c : Nat) (l : List UInt8) :
    ∀ i, i < (ls ++ [l]).length → ∃ a' c', (vs ++ [Value.slice a l.length c])[i]? = some (.slice a' ((ls ++ [l]).getD i []).length c') := by
  intro i hi
  by_cases hlt : i < ls.length
  · obtain ⟨a', c', h1⟩ := hd i hlt
    refine ⟨a', c', ?_⟩
    rw [List.getElem?_append_left (by omega), h1]
    simp [List.getD, List.getElem?_append_left hlt]
  · have : i = ls.length := by simp at hi; omega
    subst this
    refine ⟨a, c, ?_⟩
    rw [List.getElem?_append_right (by omega), h, Nat.sub_self]
    simp [List.getD]

theorem OwnL.row2 {w w' : World} {a : Option Addr} {n c : Nat} {vs : List Value} {ls : List (List UInt8)} (h : OwnL w w' a n c vs ls) : Row2 w' vs ls := by
  refine ⟨h.len, fun i hi => ?_⟩
  obtain ⟨a', c', h1⟩ := h.hd i hi
  refine ⟨a', _, c', h1, h.st.rd (i := i + 1) (e := 5) ?_⟩
  rw [List.getElem?_cons_succ, rowsL_get h.len hi]
  simp [List.getD, h1]

theorem OwnL.rd {w w' : World} {a : Option Addr} {n c : Nat} {vs : List Value} {ls : List (List UInt8)} (h : OwnL w w' a n c vs ls) : Rd w' a n c 1 vs := h.st.rd (i := 0) rfl
theorem OwnL.num {w w' : World} {a : Option Addr} {n c : Nat} {vs : List Value} {ls : List (List UInt8)} (h : OwnL w w' a n c vs ls) : ls.length = n := by have := h.rd.len; have := h.len; omega

theorem OwnL.push {w0 w w' : World} {a : Option Addr} {n c : Nat} {vs : List Value} {ls : List (List UInt8)} {a3 : Option Addr} {n3 c3 : Nat} {f : List UInt8} (h : OwnL w0 w a n c vs ls) (hf : FreshB w w' a3 n3 c3 f) (hb : n + 1 ≤ 1000000000) :
    ∃ g w2 va vc w3, (Instr.buildSlice 39 1 #[(0, .slice a3 n3 c3)]).run Try.prog w' = .ok (.slice (some ⟨g, 0, none⟩) 1 1) w2 ∧
      (Builtin.append_ #[39, 39] 39 #[.slice a n c, .slice (some ⟨g, 0, none⟩) 1 1]).run Try.prog w2 = .ok (.slice va (n + 1) vc) w3 ∧ OwnL w0 w3 va (n + 1) vc (vs ++ [Value.slice a3 n3 c3]) (ls ++ [f]) := by
  have h4 := hf.add h.st
  have hfl := hf.2.1
  subst hfl
  have h5 : St w0 [] w' (.row 22 1 (.slice a n c) n vs :: rowsL (vs ++ [Value.slice a3 f.length c3]) (ls ++ [f])) := by
    rw [rowsL_snoc h.len]; exact h4
  obtain ⟨g6, w6, va, vc, w7, r6, r7, h7, h6, hc6⟩ := h5.pushV (i := 0) (ty := 39) bbT rfl (.slice a3 f.length c3) rfl (by omega) (by simp only [maxLen]; omega)
  exact ⟨g6, w6, va, vc, w7, r6, r7, h7, by simp [h.len], hd_snoc h.len h.hd _ _ _⟩

theorem OwnL.same {w0 w w' : World} {a : Option Addr} {n c : Nat} {vs : List Value} {ls : List (List UInt8)} (h : OwnL w0 w a n c vs ls) (hc : Chg [] w w') : OwnL w0 w' a n c vs ls := ⟨h.st.same hc, h.len, h.hd⟩

theorem Sx.St.fps_own {w0 w : World} {M : List Res} (h : St w0 [] w M) : ∀ k ∈ fpsL M, w0.heap.size ≤ k := by
  intro k hk
  obtain ⟨r, hr, hk⟩ := List.mem_flatMap.1 hk
  simpa using h.pw.2.1 r hr k hk

theorem apartL {w0 w : World} {a : Option Addr} {n c : Nat} {vs : List Value} {ls : List (List UInt8)} (h : OwnL w0 w a n c vs ls) (hn : n ≤ 1048576) (hb : ls.flatten.length ≤ 1099511627776) :
    Calls Try.prog 28 #[.slice a n c] w fun e w' => e = .returned (.bool true) ∧ Chg [] w0 w' := by
  refine (apart_spec _ a n c vs ls w h.st.self h.len h.hd hn (fun i hi => by have := getD_le_flat hi; omega)).mono ?_
  rintro e w' ⟨rfl, hc⟩
  exact ⟨rfl, h.st.chg.trans' hc fun k hk => .inl (h.st.fps_own k hk)⟩

theorem OwnL.nil (w : World) : OwnL w w none 0 0 [] [] := ⟨(St.start w).addNil _ _, rfl, by simp⟩

theorem unpackF_len : ∀ (k : Nat) (l : List UInt8) (fs : List (List UInt8)), unpackF k l = some fs → fs.length = k ∧ fs.length + fs.flatten.length ≤ l.length
  | 0, l, fs, h => by
    simp only [unpackF] at h
    split at h
    · simp only [Option.some.injEq] at h; subst h; simp
    · cases h
  | k + 1, l, fs, h => by
    simp only [unpackF, Option.bind_eq_some_iff, Option.map_eq_some_iff] at h
    obtain ⟨⟨f, r⟩, h1, gs, h2, rfl⟩ := h
    obtain ⟨s, _, _, _, h3, h4, _⟩ := fieldF_some h1
    obtain ⟨h5, h6⟩ := unpackF_len k r gs h2
    simp only [List.length_cons, List.flatten_cons, List.length_append]
    omega

theorem built_reader : Try.prog.built 80 = fun parts => Instr.fill (fun i => (#[(0, 1), (1, 1)] : Array (Nat × Nat))[i]?) #[.slice none 0 0, .bool false] parts := by kernel_rfl

theorem reader_build (a : Option Addr) (n c : Nat) (w : World) : (Instr.build 80 #[(0, .slice a n c)]).run Try.prog w = .ok (.agg #[.slice a n c, .bool false]) w := by
  apply run_build
  rw [built_reader]
  show Instr.fill _ _ [(0, .slice a n c)] = _
  rw [fill_step (off := 0) (sz := 1) rfl (by simp [Value.cells]) (by simp)]
  simp [Instr.fill, Value.cells]

/-- One more thing in a row of things. -/
theorem unpack_spec (a : Option Addr) (n c : Nat) (l : List UInt8) (x : Int) (w : World) (hr : RdB w a n c l) (hb : n ≤ 1048576) (hx : -9223372036854775808 ≤ x ∧ x ≤ 9223372036854775807) :
    Calls Try.prog 26 #[.slice a n c, .int .i64 x] w fun e w' => match unpackZ x l with
      | none => e = .returned (.tuple #[.slice none 0 0, errV (some 9)]) ∧ Chg [] w w'
      | some fs => ∃ a n c vs, e = .returned (.tuple #[.slice a n c, errV none]) ∧ OwnL w w' a n c vs fs := by
  have iB : ∀ w, (isAgg 4).run Try.prog w = .ok false w := fun w => Try.isAgg4 w
  have hl := hr.lenB
  apply wire_Unpack_vc
  obtain ⟨g, w1, r1, h1⟩ := (St.start w).box (P := Try.prog) 80 (.agg #[.slice a n c, .bool false])
  have h1' := h1.addNil 22 1
  refine ⟨_, reader_build a n c w, g, w1, r1, fun xa xn xc y w' => ∃ (fs : List (List UInt8)) (rest : List UInt8) (vs : List Value) (a2 : Option Addr) (n2 c2 : Nat), y = (fs.length : Int) ∧ xn = fs.length ∧ (0 ≤ x → y ≤ x) ∧ (x < 0 → fs = []) ∧
      (∀ k : Nat, x = (fs.length : Int) + k → unpackF x.toNat l = (unpackF k rest).map (fs ++ ·)) ∧ fs.length + rest.length ≤ n ∧
      St w [] w' ([.blk g (.cells #[.slice a2 n2 c2, .bool false] 80), .row 22 1 (.slice xa xn xc) xn vs] ++ rowsL vs fs) ∧ RdB w a2 n2 c2 rest ∧ vs.length = fs.length ∧ (∀ i, i < fs.length → ∃ a c, vs[i]? = some (.slice a (fs.getD i []).length c)),
    fun _ _ _ y _ => (x - y).toNat, ⟨[], l, [], a, n, c, rfl, rfl, id, fun _ => rfl, fun k hk => ?_, by simp; omega, h1', hr, rfl, by simp⟩, ?_⟩
  · rw [hk]; simp
  rintro xa xn xc y w2 ⟨fs, rest, vs, a2, n2, c2, rfl, rfl, hyx, hx0, hun, hlen, hS, hrd, hvs, hhd⟩
  refine ⟨fun h => ?_, fun h => ?_⟩
  · have hlt : (fs.length : Int) < x := by simpa using h
    have hg : w2.heap[g]? = some (.cells #[.slice a2 n2 c2, .bool false] 80) := hS.holds 0 _ rfl
    refine (rField_spec g _ (some rest) a2 n2 c2 w2 hg (hS.rd1 hrd) (by simp; omega)).mono ?_
    rintro e w3 ⟨a3, n3, c3, rfl, hf3, a4, n4, c4, hg4, hs4⟩
    have hr4 := hs4 w hrd
    simp only [Option.bind_some, RdrA] at hf3 hg4 hr4
    obtain ⟨k, hk⟩ : ∃ k : Nat, x = (fs.length : Int) + ((k + 1 : Nat) : Int) := ⟨(x - fs.length - 1).toNat, by omega⟩
    have hun' := hun (k + 1) hk
    rw [unpackF] at hun'
    refine ⟨_, _, _, rfl, _, ld1 (iB _) (by rw [cell_of_row w3 g _ _ _ _ hg4]; rfl), fun hbr => ?_, fun hbr => ?_⟩
    · have hfn : fieldF rest = none := by cases hv : fieldF rest with
        | none => rfl
        | some p => rw [hv] at hbr; simp at hbr
      rw [hfn] at hun'
      have : unpackZ x l = none := by rw [unpackZ, if_neg (by omega), hun']; rfl
      rw [this]
      exact ⟨rfl, hS.chg.trans' hf3.1 (fun i hi => .inl (by have := hS.own 0 _ rfl i (by simpa [Res.fp] using hi); simpa using this))⟩
    · cases hv : fieldF rest with
      | none => rw [hv] at hbr; simp at hbr
      | some p =>
      obtain ⟨f, r⟩ := p
      rw [hv] at hf3 hg4 hr4 hun'
      simp only [Option.map_some, Option.getD_some, Option.isNone_some, Option.bind_some] at hf3 hg4 hr4 hun'
      obtain ⟨s, _, _, _, hs1, hs2, _⟩ := fieldF_some hv
      have h4 := hf3.addBlk hS (i := 0) rfl hg4
      have hfl := hf3.2.1
      subst hfl
      have h5 : St w [] w3 ([.blk g (.cells #[.slice a4 n4 c4, .bool false] 80), .row 22 1 (.slice xa fs.length xc) fs.length vs] ++ rowsL (vs ++ [Value.slice a3 f.length c3]) (fs ++ [f])) := by
        rw [rowsL_snoc hvs, ← List.append_assoc]; exact h4
      obtain ⟨g6, w6, va, vc, w7, r6, r7, h7, h6, hc6⟩ := h5.pushV (i := 1) (ty := 39) bbT rfl (.slice a3 f.length c3) rfl (by omega) (by simp only [maxLen]; omega)
      refine ⟨_, _, _, _, r6, _, _, _, _, r7, ⟨fs ++ [f], r, vs ++ [Value.slice a3 f.length c3], a4, n4, c4, ?_, by simp, fun _ => ?_, fun h => by omega, fun j hj => ?_, by simp; omega, h7, ?_, by simp [hvs], hd_snoc hvs hhd _ _ _⟩, ?_⟩
      · rw [wrap_i64 (by omega) (by omega)]; simp
      · rw [wrap_i64 (by omega) (by omega)]; omega
      · have : j = k := by simp at hj; omega
        subst this
        rw [hun']; cases unpackF j r <;> simp
      · exact hr4
      · show (x - IntKind.wrap .i64 ((fs.length : Int) + 1)).toNat < (x - (fs.length : Int)).toNat
        rw [wrap_i64 (by omega) (by omega)]; omega
  · have hge : x ≤ (fs.length : Int) := by simpa using h
    have ldr : (Instr.loadAt 22 (.pointer (some ⟨g, 0, none⟩))).run Try.prog w2 = .ok (.slice a2 n2 c2) w2 := hS.ld (i := 0) (o := 0) rfl (bsA _) rfl
    have hrl := hrd.lenB
    refine ⟨fun b w' => b = decide (x < 0 ∨ 0 < n2) ∧ w' = w2, ⟨fun h => ?_, fun h => ⟨_, _, _, ldr, ?_, rfl⟩⟩, ?_⟩
    · simp at h; exact ⟨by simp [h], rfl⟩
    · simp at h; simp [show ¬ x < 0 by omega]
    rintro b w3 ⟨rfl, rfl⟩
    refine ⟨fun h => ?_, fun h => ?_⟩
    · have hz : unpackZ x l = none := by
        unfold unpackZ
        by_cases hx1 : x < 0
        · rw [if_pos hx1]
        · rw [if_neg hx1, hun 0 (by omega), unpackF]
          have : rest ≠ [] := by rintro rfl; simp at h hrl; omega
          rw [if_neg this]; rfl
      rw [hz]
      exact ⟨rfl, hS.chg⟩
    · have hx1 : ¬ x < 0 ∧ n2 = 0 := by simp at h; omega
      have hre : rest = [] := List.eq_nil_of_length_eq_zero (by omega)
      have hz : unpackZ x l = some fs := by
        unfold unpackZ
        rw [if_neg hx1.1, hun 0 (by omega), unpackF, if_pos hre]; simp
      rw [hz]
      exact ⟨_, _, _, _, rfl, hS.tail, hvs, hhd⟩

end Go.Proofs.Ytpfjakmbokkkoaa
