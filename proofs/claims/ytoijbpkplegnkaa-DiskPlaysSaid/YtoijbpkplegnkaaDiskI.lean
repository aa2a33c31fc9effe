/- A disk in memory: List (conditions: those that each theorem names). -/
import Derived.Test.YtoijbpkplegnkaaDiskH
import Derived.Test.YtoijbpkplegnkaaSortL
namespace Go.Proofs.Ytoijbpkplegnkaa
open Go Sx Go.RowKit Go.Maps Go.Sort Go.Shelf
set_option maxRecDepth 8000

theorem lex_le : ∀ l m : List UInt8, lexLt l m = true → l ≤ m
  | [], [], h => by simp [lexLt] at h
  | [], _ :: _, _ => List.nil_le _
  | _ :: _, [], h => by simp [lexLt] at h
  | a :: l, b :: m, h => by
    rw [List.cons_le_cons_iff]
    simp only [lexLt] at h
    split at h
    · rename_i h1
      exact .inl (UInt8.lt_iff_toNat_lt.2 h1)
    · rename_i h1
      split at h
      · cases h
      · rename_i h2
        have : a = b := UInt8.toNat_inj.1 (by omega)
        exact .inr ⟨this, lex_le l m h⟩

theorem sort_names {d : Dir} (h : AscBy Ent.name d) {ss : List (List UInt8)} (hp : ss.Perm (d.map Ent.name)) : ss.mergeSort (fun x y => decide (x ≤ y)) = d.map Ent.name := by
  rw [show ss.mergeSort (fun x y => decide (x ≤ y)) = (d.map Ent.name).mergeSort (fun x y => decide (x ≤ y)) from mergeSort_of_perm hp]
  refine List.mergeSort_of_pairwise ?_
  rw [List.pairwise_map]
  exact List.Pairwise.imp (fun {a b} hab => by simpa using lex_le _ _ hab) h

/-- The elements of a map are not looked at. -/
def blindR (_ : Value) : Option (DataW Unit × List MemPlace) := some (.nil, [])
theorem keyOf_nm (e : Ent) (h : e.name.length ≤ 64) : keyOf Try.prog 9 (kyE e) = some (.string e.name) := by
  have h1 : Try.prog.underlying 9 = some .string := Try.underlying9
  have h2 : (⟨e.name.toArray⟩ : ByteArray).size ≤ maxLen := by show e.name.toArray.size ≤ _; simp [maxLen]; omega
  simp only [keyOf, h1, kyE, strV, mapKey]
  simp [h2]

theorem owns_names {w : World} {g : Nat} {es : Array MapEntry} {ck : Nat} {gs : List Nat} {Mn d : Dir} (hE : MapE kyE (vlE gs) es ck Mn) (hD : MapIsA Ent.name Mn d) (hg : w.heap[g]? = some (.map es ck)) (hlen : Mn.length ≤ 4096) (hn : ∀ e ∈ Mn, e.name.length ≤ 64) :
    ∃ D : DataW Unit, w.ownsMap Try.prog 9 blindR g 4096 D ∧ (strKeys D).Perm (Mn.map Ent.name) ∧ Maps.size D = Mn.length := by
  have hsz := hE.len
  have hrd : ∀ x ∈ es.toList, ∃ r ∈ Mn, x.key = kyE r ∧ WideElems.rd Try.prog 9 blindR x = some (.string r.name, .nil) := by
    intro x hx
    obtain ⟨i, hi⟩ := List.getElem?_of_mem hx
    obtain ⟨r, h1, h2, h3⟩ := hE.at_ hi
    have hr := List.mem_of_getElem? h1
    refine ⟨r, hr, h2, ?_⟩
    unfold WideElems.rd
    rw [h2, keyOf_nm r (hn r hr)]
    rfl
  have hkeys : es.toList.map (fun x => x.key) = Mn.map kyE := by
    have := congrArg (List.map Prod.fst) hE.ents
    rw [List.map_map, List.map_map] at this
    exact this
  have hnd : (Mn.map kyE).Nodup := by
    have h1 : Mn.Pairwise fun x y => x.name ≠ y.name := (hD.perm.pairwise_iff (fun {a b} (h : a.name ≠ b.name) => h.symm)).2 (asc_ne hD.asc)
    rw [List.Nodup, List.pairwise_map]
    refine h1.imp fun {a b} h e => h ?_
    have : strV a.name = strV b.name := e
    exact encStr_inj this
  have F : WideElems.Fit Try.prog 9 blindR es ck := ⟨by rw [hsz]; simp only [maxLen]; omega, ⟨hE.old, hE.born, by rw [hkeys]; exact hnd⟩, fun x hx => by obtain ⟨r, _, _, h⟩ := hrd x hx; exact ⟨_, h⟩⟩
  refine ⟨_, ⟨es, ck, hg, F, by omega, rfl⟩, ?_, ?_⟩
  · show (((es.toList.map (WideElems.rg Try.prog 9 blindR)).foldr DataW.insert []).map fun p => strOf p.1).Perm _
    refine ((WideShapes.sorted_perm _).map _).trans (List.Perm.of_eq ?_)
    rw [List.map_map]
    have e1 : es.toList.map ((fun p : Lit × DataW Unit => strOf p.1) ∘ WideElems.rg Try.prog 9 blindR) = es.toList.map fun x => strOf ((keyOf Try.prog 9 x.key).getD (.bool false)) := by
      refine List.map_congr_left fun x hx => ?_
      obtain ⟨r, hr, hk, h⟩ := hrd x hx
      show strOf (WideElems.rg Try.prog 9 blindR x).1 = _
      rw [WideElems.rg, h, hk, keyOf_nm r (hn r hr)]
      rfl
    rw [e1]
    have e2 : es.toList.map (fun x => strOf ((keyOf Try.prog 9 x.key).getD (.bool false))) = (es.toList.map fun x => x.key).map fun k => strOf ((keyOf Try.prog 9 k).getD (.bool false)) := by rw [List.map_map]; rfl
    rw [e2, hkeys, List.map_map]
    refine List.map_congr_left fun r hr => ?_
    show strOf ((keyOf Try.prog 9 (kyE r)).getD (.bool false)) = r.name
    rw [keyOf_nm r (hn r hr)]
    rfl
  · show ((es.toList.map (WideElems.rg Try.prog 9 blindR)).foldr DataW.insert []).length = _
    rw [(WideShapes.sorted_perm _).length_eq, List.length_map, Array.length_toList, hsz]

theorem sorts_nm (m : Nat) : AnyZ.SortsIn Try.prog sortedD_ren Fence.wide m :=
  ⟨fun blk off cap ss W hH hblk hsz => callsIn_wide.2 (AnyM.slices_Sort_string sortD blk off cap ss W hH hblk hsz),
   fun p cap W => callsIn_wide.2 (AnyM.slices_Sort_string_none sortD p cap W)⟩

def namesM (m : DiskM) : List Nm := m.now.map Ent.name

section
variable {w0 w w' : World} {X : List Nat} {N N' : List Res} {gd : Nat} {ps : List Nat} {m : DiskM}

theorem list_spec {p : DP} (hp : DMem m p) (hS : St w0 X w (resD gd m p ++ DR p.FL N)) :
    Calls Try.prog 18 #[.pointer (some ⟨gd, 0, none⟩)] w fun e w' => ∃ a c, e = .returned (.slice a (namesM m).length c) ∧ St w [] w' [.row 9 1 (.slice a (namesM m).length c) (namesM m).length ((namesM m).map strV)] := by
  have hg : w.heap[p.gn]? = some (.map p.esn p.ckn) := hS.holds 1 _ rfl
  have hln : p.Mn.length ≤ 4096 := by rw [hp.isn.perm.length_eq]; exact hp.okn.len
  have hgood : ∀ e ∈ p.Mn, e.name.length ≤ 64 := by
    intro e he
    have := (hp.okn.ent e (hp.isn.perm.mem_iff.1 he)).2
    unfold goodN at this
    simp only [Bool.and_eq_true, decide_eq_true_eq] at this
    omega
  obtain ⟨D, hown, hperm, hsz⟩ := owns_names hp.mapn hp.isn hg hln hgood
  apply disk_Disk_List_vc
  have hbl := hown.lt
  have hseq : SeqGives Fence.wide 2 Try.prog 71 #[.pointer (some ⟨w.heap.size, 0, none⟩)] encStr (fun ss => ss.Perm (strKeys D)) (Maps.size D) (w.alloc (.cells #[.map (some p.gn)] 77)) :=
    AnyZ.keys_gives (ρ := keysD_ren) { keysD with } Fence.wide _ trivial rfl (by omega) w.heap.size p.gn 4096 D _ (by simp) (by simp) (by
      obtain ⟨es, clock, hb, Ft, hs, hD⟩ := hown
      exact ⟨es, clock, (Below.heap_alloc _ _ p.gn hbl).trans hb, Ft, hs, hD⟩)
  have cK : Calls Try.prog 46 #[.map (some p.gn)] w fun e w' => e = .returned (.func (.func 71) #[] #[.pointer (some ⟨w.heap.size, 0, none⟩)]) ∧ w' = w.alloc (.cells #[.map (some p.gn)] 77) := callsIn_wide.1 (AnyZ.keys_in keysD Fence.wide 5 trivial rfl (some p.gn) w)
  have cS := AnyZ.sorted_in sortedD Fence.wide 5 trivial trivial trivial trivial rfl (by omega) (sorts_nm _) (enters_of Try.func70 (by kernel_rfl) rfl) 71 #[.pointer (some ⟨w.heap.size, 0, none⟩)] trivial (enters_of Try.func71 (by kernel_rfl) rfl) _ _ (by rw [hsz]; simp only [maxLen]; omega) (by rw [hsz]; omega) _ hseq
  change CallsIn _ _ Try.prog 45 _ _ _ at cS
  refine ⟨_, hS.ldL (i := 0) (o := 6) rfl (dirA _) rfl rfl, cK.mono ?_⟩
  rintro e w1 ⟨rfl, rfl⟩
  refine ⟨_, rfl, (callsIn_wide.1 cS).mono ?_⟩
  rintro e w2 ⟨v, ss, rfl, hS', hrow, hnil, hb⟩
  have hss : ss.Perm (m.now.map Ent.name) := (hS'.trans hperm).trans (hp.isn.perm.map _)
  have hsort := sort_names hp.okn.asc hss
  have hlen : ss.length = (namesM m).length := by rw [hss.length_eq]; rfl
  rw [hsort, hlen] at hrow
  have hb' : Below w.heap.size w w2 := ((Below.refl _ w).alloc (Nat.le_refl _) _).trans (hb.mono (by simp))
  have hrow' : w2.ownsRow w.heap.size 9 1 v (namesM m).length ((namesM m).map strV) := ownsRow_base hrow (by simp)
  have hst : St w [] w2 [.row 9 1 v (namesM m).length ((namesM m).map strV)] := (St.start w).add (Chg.of_below hb') (ownsRow_base hrow' (Nat.zero_le _)) (fun k hk => (World.ownsRow.lt hrow' k (by simpa [Res.fp] using hk)).1)
  rcases hrow'.2 with ⟨rfl, hz⟩ | ⟨g, cap, cur, rfl, _⟩
  · refine ⟨none, 0, 0, rfl, none, 0, by rw [hz], ?_⟩
    rw [hz] at hst ⊢
    exact hst
  · exact ⟨_, _, _, rfl, _, _, rfl, hst⟩

end

end Go.Proofs.Ytoijbpkplegnkaa
