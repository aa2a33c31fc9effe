/- The contract of amphoranum.Apart: lists that lie apart are told apart (conditions: those that the theorem names). -/
import Derived.Test.YtmdandkoajocpaaDoorLists
import Derived.Test.YtmdandkoajocpaaDoorSxSeat
import Derived.Test.YtmdandkoajocpaaDoorVnum
namespace Go.Proofs.YtmdandkoajocpaaDoor
open Go Sx
set_option maxRecDepth 8000

/-- The marks of Apart. -/
def markB (k j : Nat) : UInt8 := UInt8.ofNat ((31 * k + 7 * j + 1) % 256)
def marks (k m : Nat) : List UInt8 := (List.range m).map (markB k)
@[simp] theorem marks_len (k m : Nat) : (marks k m).length = m := by simp [marks]
theorem marks_get {k m j : Nat} (h : j < m) : (marks k m)[j]? = some (markB k j) := by simp [marks, h]
theorem marks_succ (k m : Nat) : marks k (m + 1) = marks k m ++ [markB k m] := by simp [marks, List.range_succ]

theorem mark_val (k j : Nat) : IntKind.wrap .u8 (IntKind.wrap .i64 ((IntKind.wrap .i64 ((IntKind.wrap .i64 ((31 : Int) * (k : Int))) + (IntKind.wrap .i64 ((7 : Int) * (j : Int))))) + (1 : Int))) = ((markB k j).toNat : Int) := by
  have key : ∀ x : Int, IntKind.wrap .i64 x % 256 = x % 256 := fun x => by
    rw [wrap_i64_of]; split <;> omega
  have e : ((markB k j).toNat : Int) = (31 * (k : Int) + 7 * (j : Int) + 1) % 256 := by
    simp only [markB, UInt8.toNat_ofNat', Nat.reducePow, Nat.mod_mod]
    omega
  rw [wrap_u8, e, key]
  have h1 := key ((31 : Int) * (k : Int))
  have h2 := key ((7 : Int) * (j : Int))
  have h3 := key (IntKind.wrap .i64 ((31 : Int) * (k : Int)) + IntKind.wrap .i64 ((7 : Int) * (j : Int)))
  omega

/-- Lists, each in a row of its own. -/
def rowsL (vs : List Value) (ls : List (List UInt8)) : List Res := List.zipWith (fun v l => Res.row 5 1 v l.length (bv l)) vs ls

theorem rowsL_get {vs : List Value} {ls : List (List UInt8)} (h : vs.length = ls.length) {k : Nat} (hk : k < ls.length) : (rowsL vs ls)[k]? = some (.row 5 1 (vs.getD k .nilIface) (ls.getD k []).length (bv (ls.getD k []))) := by
  simp [rowsL, List.getElem?_zipWith, List.getD, hk, show k < vs.length by omega]

theorem rowsL_set {vs : List Value} {ls : List (List UInt8)} (h : vs.length = ls.length) {k : Nat} (hk : k < ls.length) (l : List UInt8) : (rowsL vs ls).set k (.row 5 1 (vs.getD k .nilIface) l.length (bv l)) = rowsL vs (ls.set k l) := by
  apply List.ext_getElem?
  intro j
  by_cases hj : j < ls.length
  · rw [rowsL_get (by simpa using h) (by simpa using hj), List.getElem?_set]
    by_cases e : k = j
    · subst e
      have hlen : k < (rowsL vs ls).length := by simp [rowsL]; omega
      simp [hlen, List.getD, hk]
    · rw [if_neg e, rowsL_get h hj]
      simp [List.getD, List.getElem?_set, e]
  · rw [List.getElem?_eq_none (by simp [rowsL]; omega), List.getElem?_eq_none (by simp [rowsL]; omega)]

/-- The first i bytes of one row, the others of another. -/
def mixA (x l : List UInt8) (i : Nat) : List UInt8 := x.take i ++ l.drop i
theorem mixA_zero (x l : List UInt8) : mixA x l 0 = l := by simp [mixA]
theorem mixA_all {x l : List UInt8} (h : x.length = l.length) : mixA x l l.length = x := by simp [mixA, ← h]
theorem mixA_len {x l : List UInt8} {i : Nat} (h : x.length = l.length) (hi : i ≤ l.length) : (mixA x l i).length = l.length := by simp [mixA]; omega
theorem mixA_set {x l : List UInt8} {i : Nat} {b : UInt8} (h : x.length = l.length) (hb : x[i]? = some b) : (mixA x l i).set i b = mixA x l (i + 1) := by
  have hi : i < x.length := (List.getElem?_eq_some_iff.1 hb).1
  have hl : (x.take i).length = i := by rw [List.length_take]; omega
  rw [mixA, mixA, List.set_append_right _ _ (by omega), hl, Nat.sub_self, List.drop_eq_getElem_cons (by omega : i < l.length), List.set_cons_zero, List.take_add_one, hb]
  simp

/-- What Apart knows of the lists before k: they are marked and grown. -/
structure Grown (M : List Res) (vs gs : List Value) (lens : List Nat) (n B j : Nat) : Prop where
  old : ∃ a m c' m0 c0, vs[j]? = some (.slice a m0 c0) ∧ lens.getD j 0 ≤ m ∧ M[j + 1]? = some (.row 5 1 (.slice a m c') m (bv (marks j m)))
  new : ∃ a c i, gs[j]? = some (.slice a (lens.getD j 0 + 12) c) ∧ (i = j + 1 ∨ n + 1 < i) ∧ i < B ∧ M[i]? = some (.row 5 1 (.slice a (lens.getD j 0 + 12) c) (lens.getD j 0 + 12) (bv (marks j (lens.getD j 0 + 12))))

/-- What stood before B in one list of things stands in the other, but for one. -/
def Ag (M M' : List Res) (i B : Nat) : Prop := ∀ (x : Nat) (r : Res), x < B → x ≠ i → M[x]? = some r → M'[x]? = some r

theorem Ag.set {M : List Res} {i B : Nat} {r : Res} : Ag M (M.set i r) i B := fun x s _ hx h => by rw [List.getElem?_set_ne (Ne.symm hx)]; exact h
theorem Ag.app {M : List Res} {i B : Nat} {N : List Res} : Ag M (M ++ N) i B := fun x s _ _ h => by rw [List.getElem?_append_left (List.getElem?_eq_some_iff.1 h).1]; exact h
theorem Ag.trans {M M' M'' : List Res} {i B : Nat} (h : Ag M M' i B) (k : Ag M' M'' i B) : Ag M M'' i B := fun x r hx hi hr => k x r hx hi (h x r hx hi hr)

theorem Grown.mono {M M' : List Res} {vs gs gs' : List Value} {lens : List Nat} {n B B' j i : Nat} (h : Grown M vs gs lens n B j) (ha : ∀ (x : Nat) (r : Res), x < B → x ≠ i → x ≠ n + 1 → M[x]? = some r → M'[x]? = some r) (hi : i ≠ j + 1 ∧ (n + 1 < i → B ≤ i)) (hj : j + 1 < B) (hjn : j < n) (hB : B ≤ B') (hg : ∀ v, gs[j]? = some v → gs'[j]? = some v) : Grown M' vs gs' lens n B' j := by
  obtain ⟨a, m, c', m0, c0, h1, h2, h3⟩ := h.old
  obtain ⟨b, c, x, h4, h5, h6, h7⟩ := h.new
  refine ⟨⟨a, m, c', m0, c0, h1, h2, ha _ _ hj (Ne.symm hi.1) (by omega) h3⟩, b, c, x, hg _ h4, h5, by omega, ha _ _ h6 ?_ (by omega) h7⟩
  intro e
  subst e
  rcases h5 with h5 | h5
  · exact hi.1 h5
  · have := hi.2 h5; omega

theorem apart_spec (F : List Nat) (a : Option Addr) (n c : Nat) (vs : List Value) (ls : List (List UInt8)) (w : World) (hS : St w F w (.row 22 1 (.slice a n c) n vs :: rowsL vs ls)) (hl : vs.length = ls.length) (hv : ∀ i, i < ls.length → ∃ a c, vs[i]? = some (.slice a (ls.getD i []).length c))
    (hn : n ≤ 1048576) (hb : ∀ i, i < ls.length → (ls.getD i []).length ≤ 140737488351232) :
    Calls Tryd.prog 8 #[.slice a n c] w fun e w' => e = .returned (.bool true) ∧ Chg F w w' := by
  apply amphoranum_Apart_vc
  have sB : ∀ w, (sizeOf 5).run Tryd.prog w = .ok 1 w := fun w => Tryd.sizeOf5 w
  have eSl : ∀ w, (isAgg 22).run Tryd.prog w = .ok false w := fun w => Tryd.isAgg22 w
  have hvn : vs.length = n := by have := (hS.holds 0 _ rfl).1; simpa using this
  have hln : ls.length = n := by omega
  -- reading a list's header
  have hdr : ∀ (w' : World), Cells w' a vs → ∀ i, i < n → ∃ b o a' c', a = some ⟨b, o, none⟩ ∧ vs[i]? = some (.slice a' (ls.getD i []).length c') ∧ (Instr.loadAt 22 (.pointer (some ⟨b, o + Int.toNat (i : Int) * 1, none⟩))).run Tryd.prog w' = .ok (.slice a' (ls.getD i []).length c') w' := by
    intro w' hc i hi
    obtain ⟨a', c', h1⟩ := hv i (by omega)
    obtain ⟨b, o, ha, hcell⟩ := hc.at_ h1
    refine ⟨b, o, a', c', ha, h1, ?_⟩
    rw [show o + Int.toNat (i : Int) * 1 = o + i by omega]
    exact ld1 (eSl _) hcell
  have e1 : ∀ i : Nat, i < 4611686018427387904 → IntKind.wrap .i64 ((i : Int) + 1) = ((i + 1 : Nat) : Int) := fun i hi => by rw [wrap_i64 (by omega) (by omega)]; rfl
  have hd : ∀ (i : Nat) (l l' : List (List UInt8)), i < l.length → (l.set i (l'.getD i [])).getD i [] = l'.getD i [] := fun i l l' hi => by simp [List.getD, hi]
  -- the lists are marked
  refine ⟨fun x w' => ∃ (k : Nat) (ls' : List (List UInt8)), x = (k : Int) ∧ k ≤ n ∧ ls'.length = ls.length ∧ (∀ j, j < n → (ls'.getD j []).length = (ls.getD j []).length) ∧ (∀ j, j < k → ls'.getD j [] = marks j (ls.getD j []).length) ∧ St w F w' (.row 22 1 (.slice a n c) n vs :: rowsL vs ls'), fun x _ => n - x.toNat,
    ⟨0, ls, rfl, by omega, rfl, fun _ _ => rfl, fun j hj => by omega, hS⟩, ?_⟩
  rintro x w1 ⟨k, ls1, rfl, hk, hl1, hlen1, hm1, hS1⟩
  refine ⟨fun h => ?_, fun h => ?_⟩
  · have hk' : k < n := by simp at h; omega
    obtain ⟨b, o, a', c', ha, hvk, hld⟩ := hdr w1 (hS1.cells (i := 0) rfl) k hk'
    refine ⟨b, o, ha, by omega, by omega, _, _, _, hld, ?_⟩
    obtain ⟨m, hm⟩ : ∃ m, (ls.getD k []).length = m := ⟨_, rfl⟩
    have hmb : m ≤ 140737488351232 := by rw [← hm]; exact hb k (by omega)
    have hlk : (ls1.getD k []).length = m := by rw [hlen1 k hk', hm]
    have hgv : vs.getD k .nilIface = .slice a' m c' := by rw [List.getD, hvk, hm]; rfl
    rw [hm]
    refine ⟨fun y w' => ∃ j : Nat, y = (j : Int) ∧ j ≤ m ∧ St w F w' (.row 22 1 (.slice a n c) n vs :: rowsL vs (ls1.set k (mixA (marks k m) (ls1.getD k []) j))), fun y _ => m - y.toNat, ⟨0, rfl, by omega, ?_⟩, ?_⟩
    · rw [mixA_zero]
      have : ls1.set k (ls1.getD k []) = ls1 := by
        apply List.ext_getElem?
        intro j
        rw [List.getElem?_set]
        by_cases e : k = j
        · subst e; simp [List.getD, show k < ls1.length by omega]
        · rw [if_neg e]
      rw [this]; exact hS1
    rintro y w2 ⟨j, rfl, hj, hS2⟩
    have hmx : (marks k m).length = (ls1.getD k []).length := by rw [marks_len, hlk]
    refine ⟨fun h => ?_, fun h => ?_⟩
    · have hj' : j < m := by simp at h; omega
      have hls2 : (ls1.set k (mixA (marks k m) (ls1.getD k []) j)).length = ls.length := by simp [hl1]
      have hget : (.row 22 1 (.slice a n c) n vs :: rowsL vs (ls1.set k (mixA (marks k m) (ls1.getD k []) j)) : List Res)[k + 1]? = some (.row 5 1 (.slice a' m c') m (bv (mixA (marks k m) (ls1.getD k []) j))) := by
        rw [List.getElem?_cons_succ, rowsL_get (by omega) (by omega), hgv]
        have : (ls1.set k (mixA (marks k m) (ls1.getD k []) j)).getD k [] = mixA (marks k m) (ls1.getD k []) j := by simp [List.getD, show k < ls1.length by omega]
        rw [this, mixA_len hmx (by omega), hlk]
      have hown := (hS2.holds _ _ hget).2
      obtain ⟨g, rfl⟩ : ∃ g, a' = some ⟨g, 0, none⟩ := by
        rcases hown with ⟨h0, h1⟩ | ⟨g, cap, cur, h0, _⟩
        · omega
        · simp only [Value.slice.injEq] at h0; exact ⟨g, h0.1⟩
      refine ⟨g, 0, rfl, by omega, by omega, ?_⟩
      rw [mark_val, e1 j (by omega), show 0 + Int.toNat (j : Int) * 1 = j by omega]
      obtain ⟨w3, r3, h3⟩ := hS2.stRow (v := .int .u8 ((markB k j).toNat : Int)) hget (sB _) hj' rfl
      rw [bv_set, mixA_set hmx (marks_get hj'), List.set_cons_succ] at h3
      have hrs : (rowsL vs (ls1.set k (mixA (marks k m) (ls1.getD k []) j))).set k (.row 5 1 (.slice (some ⟨g, 0, none⟩) m c') m (bv (mixA (marks k m) (ls1.getD k []) (j + 1)))) = rowsL vs (ls1.set k (mixA (marks k m) (ls1.getD k []) (j + 1))) := by
        have := rowsL_set (vs := vs) (ls := ls1.set k (mixA (marks k m) (ls1.getD k []) j)) (by omega) (k := k) (by omega) (mixA (marks k m) (ls1.getD k []) (j + 1))
        rw [hgv, mixA_len hmx (by omega), hlk, List.set_set] at this
        exact this
      rw [hrs] at h3
      exact ⟨w3, r3, ⟨j + 1, rfl, by omega, h3⟩, (by show m - (((j + 1 : Nat) : Int)).toNat < m - (((j : Nat) : Int)).toNat; omega)⟩
    · have hj' : j = m := by simp at h; omega
      have ha2 := mixA_all (x := marks k m) (l := ls1.getD k []) (by rw [marks_len, hlk])
      rw [hlk] at ha2
      rw [hj', ha2] at hS2
      rw [e1 k (by omega)]
      refine ⟨⟨k + 1, _, rfl, by omega, by simp [hl1], fun i hi => ?_, fun i hi => ?_, hS2⟩, (by show n - (((k + 1 : Nat) : Int)).toNat < n - (((k : Nat) : Int)).toNat; omega)⟩
      · by_cases e : k = i
        · subst e; simp [List.getD, show k < ls1.length by omega, ← hm]
        · rw [← hlen1 i hi]; simp [List.getD, List.getElem?_set, e]
      · by_cases e : k = i
        · subst e; simp [List.getD, show k < ls1.length by omega, ← hm]
        · rw [← hm1 i (by omega)]; simp [List.getD, List.getElem?_set, e]
  · have hk' : k = n := by simp at h; omega
    rw [hk'] at hm1
    clear hk h hk' hlen1
    obtain ⟨L, hL⟩ : ∃ L : Nat → Nat, L = fun i => (ls.getD i []).length := ⟨_, rfl⟩
    have hLb : ∀ i, i < n → L i ≤ 140737488351232 := fun i hi => by rw [hL]; exact hb i (by omega)
    obtain ⟨lens, hlens⟩ : ∃ lens : List Nat, lens = ls.map List.length := ⟨_, rfl⟩
    have hLl : ∀ i, i < n → lens.getD i 0 = L i := fun i hi => by rw [hlens, hL]; simp [List.getD, show i < ls.length by omega]
    obtain ⟨g0, w4, r4, h4⟩ := hS1.lit bbT [] (by simp) (by simp)
    obtain ⟨O, hO⟩ : ∃ O : Res, O = .row 22 1 (.slice a n c) n vs := ⟨_, rfl⟩
    have hrl : (O :: rowsL vs ls1).length = n + 1 := by simp [rowsL]; omega
    refine ⟨_, _, _, _, r4, fun ga gn gc x w' => ∃ (k : Nat) (M : List Res) (gs : List Value), x = (k : Int) ∧ k ≤ n ∧ gn = k ∧ gs.length = k ∧ St w F w' M ∧ M[0]? = some O ∧ M[n + 1]? = some (.row 22 1 (.slice ga gn gc) gn gs) ∧
        (∀ j, k ≤ j → j < n → ∃ a' c', vs[j]? = some (.slice a' (L j) c') ∧ M[j + 1]? = some (.row 5 1 (.slice a' (L j) c') (L j) (bv (marks j (L j))))) ∧ (∀ j, j < k → Grown M vs gs lens n M.length j), fun _ _ _ x _ => n - x.toNat,
      ⟨0, _, [], rfl, by omega, rfl, rfl, h4, by rw [hO]; rfl, ?_, fun j _ hj => ?_, fun j hj => by omega⟩, ?_⟩
    · rw [← hO, List.getElem?_append_right (by omega), hrl, Nat.sub_self]; rfl
    · obtain ⟨a', c', h1⟩ := hv j (by omega)
      refine ⟨a', c', by rw [hL]; exact h1, ?_⟩
      rw [← hO, List.getElem?_append_left (by omega), List.getElem?_cons_succ, rowsL_get (by omega) (by omega), hm1 j hj, marks_len]
      have : vs.getD j .nilIface = .slice a' (ls.getD j []).length c' := by rw [List.getD, h1]; rfl
      rw [this, hL]
    rintro ga gn gc x w5 ⟨k, M, gs, rfl, hk, rfl, hgs, hS5, hM0, hMg, hrest, hgr⟩
    refine ⟨fun h => ?_, fun h => ?_⟩
    · have hk' : gn < n := by simp at h; omega
      obtain ⟨b, o, a', c', ha, hvk, hld⟩ := hdr w5 (by rw [hO] at hM0; exact hS5.cells hM0) gn hk'
      have hLk : (ls.getD gn []).length = L gn := by rw [hL]
      rw [hLk] at hvk hld
      obtain ⟨a2, c2, hvk2, hMk⟩ := hrest gn (Nat.le_refl _) hk'
      rw [hvk] at hvk2
      simp only [Option.some.injEq, Value.slice.injEq, true_and] at hvk2
      obtain ⟨rfl, rfl⟩ := hvk2
      have hBn : n + 1 < M.length := (List.getElem?_eq_some_iff.1 hMg).1
      have hlb := hLb gn hk'
      refine ⟨b, o, ha, by omega, by omega, _, _, _, hld, ?_⟩
      have ew : IntKind.wrap .i64 (((L gn : Nat) : Int) + 12) = ((L gn + 12 : Nat) : Int) := by rw [wrap_i64 (by omega) (by omega)]; omega
      rw [ew]
      refine ⟨fun la ln lc w' => ∃ (M' : List Res) (i : Nat), St w F w' M' ∧ Ag M M' (gn + 1) M.length ∧ M'[i]? = some (.row 5 1 (.slice la ln lc) ln (bv (marks gn ln))) ∧ (i = gn + 1 ∨ M.length ≤ i) ∧ L gn ≤ ln ∧ ln ≤ L gn + 12 ∧ M.length ≤ M'.length ∧
          (∃ m c', M'[gn + 1]? = some (.row 5 1 (.slice a' m c') m (bv (marks gn m))) ∧ L gn ≤ m) ∧ (i = gn + 1 → la = a'), fun _ ln _ _ => L gn + 12 - ln,
        ⟨M, gn + 1, hS5, fun _ _ _ _ h => h, hMk, .inl rfl, Nat.le_refl _, by omega, Nat.le_refl _, ⟨_, _, hMk, Nat.le_refl _⟩, fun _ => rfl⟩, ?_⟩
      rintro la ln lc w6 ⟨M', i, hS6, hag, hMi, hi, hl1, hl2, hBB, ⟨m, cm, hMo, hmL⟩, hia⟩
      refine ⟨fun h => ?_, fun h => ?_⟩
      · have hlt : ln < L gn + 12 := by simp at h; omega
        rw [mark_val]
        obtain ⟨g7, w7, r7, h7⟩ := hS6.lit bT [.int .u8 ((markB gn ln).toNat : Int)] (by simp [Value.oneCell']) (by simp)
        have hiM : i < M'.length := (List.getElem?_eq_some_iff.1 hMi).1
        obtain ⟨va, vc, w8, r8, h8⟩ := h7.append2 (i := i) (ty := 22) bT (by rw [List.getElem?_append_left hiM]; exact hMi) h7.rdLast (by simp [Value.oneCell']) (by simp; omega) (by simp only [maxLen, List.length_cons, List.length_nil]; omega)
        have hbv : bv (marks gn ln) ++ [.int .u8 ((markB gn ln).toNat : Int)] = bv (marks gn (ln + 1)) := by rw [marks_succ, bv_append]; rfl
        rw [hbv] at h8
        refine ⟨_, _, _, _, r7, _, _, _, _, r8, ?_, ?_⟩
        · rcases h8 with ⟨hva, h8⟩ | h8
          · refine ⟨_, i, h8, (hag.trans Ag.app).trans (fun x r hx hne hr => by rw [List.getElem?_set_ne (by omega)]; exact hr), ?_, hi, by simp; omega, by simp; omega, by simp; omega, ?_, fun e => by rw [hva]; exact hia e⟩
            · rw [List.getElem?_set_self (by simp; omega)]; rfl
            · by_cases e : i = gn + 1
              · refine ⟨ln + 1, vc, ?_, by omega⟩
                rw [← e, List.getElem?_set_self (by simp; omega), hva, hia e]; rfl
              · refine ⟨m, cm, ?_, hmL⟩
                rw [List.getElem?_set_ne e, List.getElem?_append_left (by omega)]; exact hMo
          · refine ⟨_, M'.length + 1, h8, (hag.trans Ag.app).trans Ag.app, ?_, .inr (by omega), by simp; omega, by simp; omega, by simp; omega, ?_, fun e => by omega⟩
            · rw [List.getElem?_append_right (by simp)]; simp
            · refine ⟨m, cm, ?_, hmL⟩
              rw [List.append_assoc, List.getElem?_append_left (by omega)]; exact hMo
        · show L gn + 12 - (ln + 1) < L gn + 12 - ln
          omega
      · have hln' : ln = L gn + 12 := by simp at h; omega
        subst hln'
        have hM'0 : M'[0]? = some O := hag 0 _ (by omega) (by omega) hM0
        have hM'g : M'[n + 1]? = some (.row 22 1 (.slice ga gn gc) gn gs) := hag (n + 1) _ hBn (by omega) hMg
        obtain ⟨g9, w9, r9, h9⟩ := hS6.lit bbT [.slice la (L gn + 12) lc] (by simp [Value.oneCell']) (by simp)
        obtain ⟨va, vc, w10, r10, h10, _, _⟩ := h9.append (i := n + 1) (ty := 35) bbT (by rw [List.getElem?_append_left (by omega)]; exact hM'g) h9.rdLast (by simp [Value.oneCell']) (by simp; omega) (by simp only [maxLen, List.length_cons, List.length_nil]; omega)
        have hiM : i < M'.length := (List.getElem?_eq_some_iff.1 hMi).1
        have agN : ∀ (x : Nat) (r : Res), x ≠ n + 1 → x < M'.length → M'[x]? = some r → ((M' ++ [Res.row 22 1 (.slice (some ⟨g9, 0, none⟩) 1 1) 1 [.slice la (L gn + 12) lc]]).set (n + 1) (.row 22 1 (.slice va (gn + 1) vc) (gn + 1) (gs ++ [.slice la (L gn + 12) lc])))[x]? = some r := fun x r hx hlx hr => by
          rw [List.getElem?_set_ne (Ne.symm hx), List.getElem?_append_left hlx]; exact hr
        refine ⟨_, _, _, _, r9, _, _, _, _, r10, ⟨gn + 1, _, gs ++ [.slice la (L gn + 12) lc], ?_, by omega, rfl, by simp [hgs], h10, agN _ _ (by omega) (by omega) hM'0, ?_, fun j hj hjn => ?_, fun j hj => ?_⟩, ?_⟩
        · exact e1 gn (by omega)
        · rw [List.getElem?_set_self (by simp only [List.length_append, List.length_cons, List.length_nil]; omega)]
        · obtain ⟨aj, cj, q1, q2⟩ := hrest j (by omega) hjn
          exact ⟨aj, cj, q1, agN _ _ (by omega) (by omega) (hag _ _ (by omega) (by omega) q2)⟩
        · rcases Nat.lt_or_ge j gn with hlt | hge
          · refine (hgr j hlt).mono (i := gn + 1) (B' := _) (fun x r hx hne hng hr => agN _ _ hng (by omega) (hag _ _ hx hne hr)) ⟨by omega, fun hh => by omega⟩ (by omega) (by omega) (by simp; omega) (fun v hv' => ?_)
            rw [List.getElem?_append_left (by omega)]; exact hv'
          · have : j = gn := by omega
            subst this
            refine ⟨⟨a', m, cm, L j, c', hvk, by rw [hLl j hk']; exact hmL, agN _ _ (by omega) (by omega) hMo⟩, la, lc, i, ?_, ?_, by simp; omega, ?_⟩
            · rw [hLl j hk', List.getElem?_append_right (by omega), hgs, Nat.sub_self]; rfl
            · omega
            · rw [hLl j hk']; exact agN _ _ (by omega) hiM hMi
        · show n - (IntKind.wrap .i64 ((gn : Int) + 1)).toNat < n - ((gn : Int)).toNat
          rw [e1 gn (by omega)]; omega
    · have hgn : gn = n := by simp at h; omega
      have rb : ∀ (a : Option Addr) (j m : Nat) (w' : World), Cells w' a (bv (marks j m)) → ∀ i, i < m → ∃ b o, a = some ⟨b, o, none⟩ ∧ ∀ w'', Cells w'' a (bv (marks j m)) → (Instr.loadAt 5 (.pointer (some ⟨b, o + Int.toNat (i : Int) * 1, none⟩))).run Tryd.prog w'' = .ok (.int .u8 ((markB j i).toNat : Int)) w'' := by
        intro a j m w' hc i hi
        have hv : (bv (marks j m))[i]? = some (.int .u8 ((markB j i).toNat : Int)) := by rw [bv_get, marks_get hi]; rfl
        obtain ⟨b, o, ha, _⟩ := hc.at_ hv
        refine ⟨b, o, ha, fun w'' hc'' => ?_⟩
        obtain ⟨b', o', ha', hcell⟩ := hc''.at_ hv
        rw [ha] at ha'
        simp only [Option.some.injEq, Addr.mk.injEq, and_true] at ha'
        obtain ⟨rfl, rfl⟩ := ha'
        rw [show o + Int.toNat (i : Int) * 1 = o + i by omega]
        exact ld1 (bA _) hcell
      have hOc : ∀ w', St w F w' M → Cells w' a vs := fun w' h => by rw [hO] at hM0; exact h.cells hM0
      refine ⟨fun x w' => ∃ k : Nat, x = (k : Int) ∧ k ≤ gn ∧ St w F w' M, fun x _ => gn - x.toNat, ⟨0, rfl, by omega, hS5⟩, ?_⟩
      rintro x w6 ⟨k, rfl, hk1, hS6⟩
      refine ⟨fun h => ?_, fun h => ⟨rfl, hS6.chg⟩⟩
      have hk2 : k < gn := by simp at h; omega
      obtain ⟨⟨a1, m, cm, m0, c0, q1, q2, q3⟩, b1, c1, i1, q4, q5, q6, q7⟩ := hgr k hk2
      rw [hLl k (by omega)] at q2 q4 q7
      have hgc : Cells w6 ga gs := hS6.cells hMg
      obtain ⟨b, o, hga, hgcell⟩ := hgc.at_ q4
      obtain ⟨b2, o2, a2, c2, ha, hvk, hld2⟩ := hdr w6 (hOc _ hS6) k (by omega)
      rw [show (ls.getD k []).length = L k by rw [hL]] at hvk hld2
      rw [q1] at hvk
      simp only [Option.some.injEq, Value.slice.injEq] at hvk
      obtain ⟨rfl, rfl, rfl⟩ := hvk
      have hlb := hLb k (by omega)
      refine ⟨b, o, hga, by omega, by omega, b1, L k + 12, c1, by rw [show o + Int.toNat (k : Int) * 1 = o + k by omega]; exact ld1 (eSl _) hgcell, ?_⟩
      refine ⟨fun y w' => ∃ j : Nat, y = (j : Int) ∧ j ≤ L k + 12 ∧ St w F w' M, fun y _ => L k + 12 - y.toNat, ⟨0, rfl, by omega, hS6⟩, ?_⟩
      rintro y w7 ⟨j, rfl, hj, hS7⟩
      refine ⟨fun h => ?_, fun h => ?_⟩
      · have hj' : j < L k + 12 := by simp at h; omega
        obtain ⟨b3, o3, hb1, hld3⟩ := rb b1 k (L k + 12) w7 (hS7.cells q7) j hj'
        refine ⟨fun b w' => b = false ∧ w' = w7.drew, ⟨fun w' => St w F w' M, hS7.drew, b3, o3, hb1, by omega, by omega, _, fun w' h => hld3 w' (h.cells q7), fun hne => ?_, fun _ => ?_⟩, ?_⟩
        · rw [mark_val] at hne; simp at hne
        · refine ⟨b2, o2, ha, by omega, by omega, a1, L k, c0, fun w' h => ?_, fun hlt => ?_, fun _ => ⟨rfl, rfl⟩⟩
          · obtain ⟨b4, o4, a4, c4, ha4, hv4, hld4⟩ := hdr w' (hOc _ h) k (by omega)
            rw [ha] at ha4
            simp only [Option.some.injEq, Addr.mk.injEq, and_true] at ha4
            obtain ⟨rfl, rfl⟩ := ha4
            rw [show (ls.getD k []).length = L k by rw [hL]] at hv4 hld4
            rw [q1] at hv4
            simp only [Option.some.injEq, Value.slice.injEq, true_and] at hv4
            obtain ⟨rfl, rfl⟩ := hv4
            exact hld4
          · have hjl : j < L k := by simp at hlt; omega
            obtain ⟨b5, o5, ha1, hld5⟩ := rb a1 k m w7 (hS7.cells q3) j (by omega)
            refine ⟨b2, o2, ha, by omega, by omega, b3, o3, hb1, by omega, by omega, a1, L k, c0, fun w' h => ?_, b5, o5, ha1, by omega, by omega, _, fun w' h => hld5 w' (h.cells q3), _, fun w' h => hld3 w' (h.cells q7), by simp, rfl⟩
            obtain ⟨b4, o4, a4, c4, ha4, hv4, hld4⟩ := hdr w' (hOc _ h) k (by omega)
            rw [ha] at ha4
            simp only [Option.some.injEq, Addr.mk.injEq, and_true] at ha4
            obtain ⟨rfl, rfl⟩ := ha4
            rw [show (ls.getD k []).length = L k by rw [hL]] at hv4 hld4
            rw [q1] at hv4
            simp only [Option.some.injEq, Value.slice.injEq, true_and] at hv4
            obtain ⟨rfl, rfl⟩ := hv4
            exact hld4
        · rintro b8 w8 ⟨rfl, rfl⟩
          refine ⟨fun h => (by cases h), fun _ => ⟨⟨j + 1, e1 j (by omega), by omega, hS7.drew⟩, ?_⟩⟩
          show L k + 12 - (IntKind.wrap .i64 ((j : Int) + 1)).toNat < L k + 12 - ((j : Int)).toNat
          rw [e1 j (by omega)]; omega
      · refine ⟨⟨k + 1, e1 k (by omega), by omega, hS7⟩, ?_⟩
        show gn - (IntKind.wrap .i64 ((k : Int) + 1)).toNat < gn - ((k : Int)).toNat
        rw [e1 k (by omega)]; omega

end Go.Proofs.YtmdandkoajocpaaDoor
