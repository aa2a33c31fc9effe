/- Contracts of seal: under, goodSecret, Lock, Unlock (conditions: those that each theorem names). -/
import Derived.Test.YtmdandkoajocpaaGreatDoorSealB
import Derived.Test.YtmdandkoajocpaaGreatDoorSealG
import Derived.Test.YtmdandkoajocpaaGreatDoorNum
import Derived.Test.YtmdandkoajocpaaGreatDoorShaT
import Derived.Laws.Cover3
namespace Go.Proofs.YtmdandkoajocpaaGreatDoor
open Go Sx
set_option maxRecDepth 8000

/-- Appending to bytes that may be read and have no room: a new row. -/
theorem Sx.St.appendRdB {w0 w : World} {X : List Nat} {M : List Res} (h : St w0 X w M) {b a : Option Addr} {n vc m c : Nat} {xs l : List UInt8} (hv : RdB w b n vc xs) (hb0 : b ≠ none) (hr : RdB w a m c l) (hroom : vc < n + m) (hb : n + m ≤ 140737488355000) :
    ∃ va' vc' w', (Builtin.append_ #[33, 33] 33 #[.slice b n vc, .slice a m c]).run Tryz.prog w = .ok (.slice va' (n + m) vc') w' ∧ St w0 X w' (M ++ [.row 5 1 (.slice va' (n + m) vc') (n + m) (bv (xs ++ l))]) := by
  obtain ⟨inf, hinf, hz, hsz, hby⟩ := (bT).inf
  have hle := hv.le
  have hle2 := hr.le
  have lv := hv.lenB
  have lr := hr.lenB
  cases b with
  | none => exact absurd rfl hb0
  | some bd =>
    cases a with
    | none => have := hr.nil rfl; omega
    | some ad =>
      have holds : ∀ j u, (bv xs)[j]? = some u → w.cell? (bd.add j) = some u := by
        intro j u hu
        obtain ⟨b, o, he, hc⟩ := hv.cells.at_ hu
        simp only [Option.some.injEq] at he
        subst he
        rw [Addr.add_mid]
        exact hc
      have hnews : ∀ j u, (bv l)[j]? = some u → w.cell? (ad.add j) = some u := by
        intro j u hu
        obtain ⟨b, o, he, hc⟩ := hr.cells.at_ hu
        simp only [Option.some.injEq] at he
        subst he
        rw [Addr.add_mid]
        exact hc
      have hr2 := run_append_grow (P := Tryz.prog) w 33 33 5 inf (.int .u8 0) (bT).ht hinf hz bd n vc (bv xs) (by rw [hsz, bv_length]; omega) holds ad m c (bv l) (by rw [hsz, bv_length]; omega) hnews hroom (by omega) (growslice_fits (by omega) (by rw [hby]; omega))
      have hge := grownCap_ge w (n + m) vc 5
      have hm : n + m ≤ maxLen := by simp only [maxLen]; omega
      have hcm := grownCap_le_maxLen w (n + m) vc 5 hm
      have hlen : (bv xs ++ bv l).length = (n + m) * 1 := by simp; omega
      refine ⟨_, _, _, hr2, h.add ((Chg.drew [] w).trans (Chg.alloc _ _)) ⟨by simpa using hlen, .inr ⟨w.heap.size, _, _, rfl, Nat.zero_le _, heap_alloc_new w.drew _, hge, hcm, ?_, ?_⟩⟩ (by simp [Res.fp, Value.ownBlock])⟩
      · simp only [Array.size_append, List.size_toArray, size_zeroCells, bv_length, (bT).zs]
        omega
      · simp only [Array.toList_append, bv_append]
        exact List.take_left' hlen

/-- A string's bytes. -/
def strL (s : ByteArray) : List UInt8 := s.data.toList
theorem strL_eq (s : ByteArray) : s = ⟨(strL s).toArray⟩ := by simp [strL]
theorem strL_size (s : ByteArray) : s.size = (strL s).length := rfl

theorem strL_nil (s : ByteArray) : (s.toList == (ByteArray.mk #[]).toList) = decide ((strL s).length = 0) := by
  rw [ByteArray.toList_eq, ByteArray.toList_eq, strL]
  cases s.data.toList <;> rfl

def amph1L : List UInt8 := [97, 109, 112, 104, 111, 114, 97, 49]
def okPw (pw : List UInt8) : Bool := decide (1 ≤ pw.length ∧ pw.length ≤ 1024)
def lockF (pw salt m : List UInt8) : List UInt8 := if okPw pw then amph1L ++ salt ++ sealF (underF pw salt) 1 salt m else []
def lockE (pw : List UInt8) : Option Int := if okPw pw then none else some 28
def unlockO (pw file : List UInt8) : Option (List UInt8) :=
  if okPw pw ∧ file.length = 101 ∧ file.take 8 = amph1L then openF (underF pw ((file.drop 8).take 16)) 1 ((file.drop 8).take 16) (file.drop 24) else none
def unlockF (pw file : List UInt8) : List UInt8 := (unlockO pw file).getD (List.replicate 32 0)
def unlockE (pw file : List UInt8) : Option Int := if okPw pw then if (unlockO pw file).isSome then none else some 10 else some 28

@[simp] theorem underF_len (pw salt : List UInt8) : (underF pw salt).length = 96 := masterF_len _

theorem openF_len {K : List UInt8} {k : UInt8} {ctx b p : List UInt8} (h : openF K k ctx b = some p) (hb : b.length ≤ 274877906944) : p.length = b.length - 45 := by
  unfold openF at h
  split at h
  · cases h
  · split at h
    · simp only [Option.some.injEq] at h
      have hlb : (bBody b).length = b.length - 45 := by rw [bBody, List.length_take, List.length_drop]; omega
      rw [← h, (overF_two _ _ _ (by omega)).2, hlb]
    · cases h

theorem unlockF_len (pw file : List UInt8) : (unlockF pw file).length = 32 := by
  rw [unlockF, unlockO]
  split
  · rename_i h
    cases ho : openF (underF pw ((file.drop 8).take 16)) 1 ((file.drop 8).take 16) (file.drop 24) with
    | none => simp
    | some p =>
      have := openF_len ho (by simp; omega)
      simp at this ⊢
      omega
  · simp

theorem d32Bk (w : World) : (Instr.build 22 #[]).run Tryz.prog w = .ok (.agg (bv (List.replicate 32 0)).toArray) w := by
  have := build_arr (P := Tryz.prog) (w := w) (T := 22) (d32Z w) Tryz.underlying22 (sB1 w) [] (by simp) (by simp)
  simpa using this

theorem ldCells32 {w : World} {b o c : Nat} {l : List UInt8} (h : RdB w (some ⟨b, o, none⟩) 32 c l) : (Instr.loadAt 22 (.pointer (some ⟨b, o, none⟩))).run Tryz.prog w = .ok (.agg (bv l).toArray) w := by
  have hl := h.lenB
  rcases h.cells with h0 | ⟨b', o', e, hr⟩
  · have : (bv l).length = 0 := by rw [h0]; rfl
    simp at this; subst this; simp at hl
  · simp only [Option.some.injEq, Addr.mk.injEq, and_true] at e
    obtain ⟨rfl, rfl⟩ := e
    have := loadCells_cells (P := Tryz.prog) hr
    rw [bv_length, hl] at this
    simp [Instr.loadAt, Instr.sureAddr, loadVar, d32A, d32S, this]

theorem bytes_beq (l m : List UInt8) : ((ByteArray.mk l.toArray).toList == (ByteArray.mk m.toArray).toList) = decide (l = m) := by
  rw [ByteArray.toList_eq, ByteArray.toList_eq]
  by_cases h : l = m <;> simp [h]

end Go.Proofs.YtmdandkoajocpaaGreatDoor
