/- A fixed fact in numbers: the keys of a master, and a blob of theirs (conditions: none). -/
import Derived.Test.YtmdandkoajocpaaGreatDoorSealF
namespace Go.Proofs.YtmdandkoajocpaaGreatDoor
open Go Sx
set_option maxRecDepth 8000
set_option maxRecDepth 100000

theorem der32_one (salt secret info : List UInt8) : der32 salt secret info = macF (macF salt secret) (info ++ [1]) := by
  have : der32 salt secret info = (outF (macF salt secret) info 1).take 32 := rfl
  rw [this, List.take_of_length_le (by rw [outF_len]; decide)]
  simp only [outF, tF, List.nil_append]
  rfl

theorem prkL_i : shaF ((macK [97, 109, 112, 104, 111, 114, 97]).map (· ^^^ 0x36) ++ [1, 2, 3, 0, 0, 0, 0, 0, 0, 0, 0, 0, 0, 0, 0, 0, 0, 0, 0, 0, 0, 0, 0, 0, 0, 0, 0, 0, 0, 0, 0, 0]) = [73, 147, 82, 141, 9, 163, 79, 130, 66, 106, 174, 253, 173, 8, 191, 85, 118, 36, 183, 122, 115, 166, 204, 243, 170, 213, 228, 32, 110, 190, 8, 85] := by kernel_rfl
theorem prkL_o : shaF ((macK [97, 109, 112, 104, 111, 114, 97]).map (· ^^^ 0x5c) ++ [73, 147, 82, 141, 9, 163, 79, 130, 66, 106, 174, 253, 173, 8, 191, 85, 118, 36, 183, 122, 115, 166, 204, 243, 170, 213, 228, 32, 110, 190, 8, 85]) = [118, 92, 58, 46, 103, 117, 162, 235, 62, 228, 226, 112, 51, 35, 33, 206, 202, 133, 127, 90, 47, 125, 250, 51, 61, 174, 216, 170, 149, 117, 48, 31] := by kernel_rfl
theorem prkL : macF [97, 109, 112, 104, 111, 114, 97] [1, 2, 3, 0, 0, 0, 0, 0, 0, 0, 0, 0, 0, 0, 0, 0, 0, 0, 0, 0, 0, 0, 0, 0, 0, 0, 0, 0, 0, 0, 0, 0] = [118, 92, 58, 46, 103, 117, 162, 235, 62, 228, 226, 112, 51, 35, 33, 206, 202, 133, 127, 90, 47, 125, 250, 51, 61, 174, 216, 170, 149, 117, 48, 31] := by rw [macF, prkL_i, prkL_o]

theorem cipL_i : shaF ((macK [118, 92, 58, 46, 103, 117, 162, 235, 62, 228, 226, 112, 51, 35, 33, 206, 202, 133, 127, 90, 47, 125, 250, 51, 61, 174, 216, 170, 149, 117, 48, 31]).map (· ^^^ 0x36) ++ [99, 105, 112, 104, 101, 114, 1]) = [226, 244, 177, 198, 9, 69, 196, 84, 224, 120, 27, 79, 193, 83, 55, 121, 86, 50, 52, 120, 185, 71, 46, 2, 222, 188, 103, 31, 254, 3, 79, 222] := by kernel_rfl
theorem cipL_o : shaF ((macK [118, 92, 58, 46, 103, 117, 162, 235, 62, 228, 226, 112, 51, 35, 33, 206, 202, 133, 127, 90, 47, 125, 250, 51, 61, 174, 216, 170, 149, 117, 48, 31]).map (· ^^^ 0x5c) ++ [226, 244, 177, 198, 9, 69, 196, 84, 224, 120, 27, 79, 193, 83, 55, 121, 86, 50, 52, 120, 185, 71, 46, 2, 222, 188, 103, 31, 254, 3, 79, 222]) = [25, 194, 45, 49, 183, 207, 83, 241, 242, 139, 46, 106, 41, 223, 25, 103, 66, 8, 224, 87, 56, 239, 195, 45, 37, 200, 31, 183, 82, 60, 120, 147] := by kernel_rfl
theorem cipL : macF [118, 92, 58, 46, 103, 117, 162, 235, 62, 228, 226, 112, 51, 35, 33, 206, 202, 133, 127, 90, 47, 125, 250, 51, 61, 174, 216, 170, 149, 117, 48, 31] [99, 105, 112, 104, 101, 114, 1] = [25, 194, 45, 49, 183, 207, 83, 241, 242, 139, 46, 106, 41, 223, 25, 103, 66, 8, 224, 87, 56, 239, 195, 45, 37, 200, 31, 183, 82, 60, 120, 147] := by rw [macF, cipL_i, cipL_o]

theorem namL_i : shaF ((macK [118, 92, 58, 46, 103, 117, 162, 235, 62, 228, 226, 112, 51, 35, 33, 206, 202, 133, 127, 90, 47, 125, 250, 51, 61, 174, 216, 170, 149, 117, 48, 31]).map (· ^^^ 0x36) ++ [110, 97, 109, 101, 1]) = [242, 16, 121, 203, 232, 136, 112, 188, 122, 154, 68, 47, 11, 4, 223, 160, 157, 0, 225, 84, 215, 158, 213, 115, 48, 243, 26, 14, 158, 48, 118, 171] := by kernel_rfl
theorem namL_o : shaF ((macK [118, 92, 58, 46, 103, 117, 162, 235, 62, 228, 226, 112, 51, 35, 33, 206, 202, 133, 127, 90, 47, 125, 250, 51, 61, 174, 216, 170, 149, 117, 48, 31]).map (· ^^^ 0x5c) ++ [242, 16, 121, 203, 232, 136, 112, 188, 122, 154, 68, 47, 11, 4, 223, 160, 157, 0, 225, 84, 215, 158, 213, 115, 48, 243, 26, 14, 158, 48, 118, 171]) = [246, 117, 89, 46, 241, 160, 252, 137, 7, 75, 100, 10, 119, 234, 118, 6, 101, 4, 232, 227, 99, 7, 44, 164, 81, 22, 200, 66, 208, 47, 218, 132] := by kernel_rfl
theorem namL : macF [118, 92, 58, 46, 103, 117, 162, 235, 62, 228, 226, 112, 51, 35, 33, 206, 202, 133, 127, 90, 47, 125, 250, 51, 61, 174, 216, 170, 149, 117, 48, 31] [110, 97, 109, 101, 1] = [246, 117, 89, 46, 241, 160, 252, 137, 7, 75, 100, 10, 119, 234, 118, 6, 101, 4, 232, 227, 99, 7, 44, 164, 81, 22, 200, 66, 208, 47, 218, 132] := by rw [macF, namL_i, namL_o]

theorem nonL_i : shaF ((macK [246, 117, 89, 46, 241, 160, 252, 137, 7, 75, 100, 10, 119, 234, 118, 6, 101, 4, 232, 227, 99, 7, 44, 164, 81, 22, 200, 66, 208, 47, 218, 132]).map (· ^^^ 0x36) ++ [1, 2, 1, 99, 5, 104, 101, 108, 108, 111]) = [202, 233, 225, 139, 251, 245, 9, 25, 38, 55, 53, 42, 39, 251, 238, 141, 175, 107, 5, 234, 78, 237, 127, 28, 58, 106, 24, 47, 224, 145, 233, 20] := by kernel_rfl
theorem nonL_o : shaF ((macK [246, 117, 89, 46, 241, 160, 252, 137, 7, 75, 100, 10, 119, 234, 118, 6, 101, 4, 232, 227, 99, 7, 44, 164, 81, 22, 200, 66, 208, 47, 218, 132]).map (· ^^^ 0x5c) ++ [202, 233, 225, 139, 251, 245, 9, 25, 38, 55, 53, 42, 39, 251, 238, 141, 175, 107, 5, 234, 78, 237, 127, 28, 58, 106, 24, 47, 224, 145, 233, 20]) = [90, 154, 236, 187, 176, 44, 202, 234, 249, 42, 10, 200, 183, 162, 169, 149, 7, 92, 70, 30, 249, 179, 55, 181, 184, 222, 200, 36, 11, 214, 51, 40] := by kernel_rfl
theorem nonL : macF [246, 117, 89, 46, 241, 160, 252, 137, 7, 75, 100, 10, 119, 234, 118, 6, 101, 4, 232, 227, 99, 7, 44, 164, 81, 22, 200, 66, 208, 47, 218, 132] [1, 2, 1, 99, 5, 104, 101, 108, 108, 111] = [90, 154, 236, 187, 176, 44, 202, 234, 249, 42, 10, 200, 183, 162, 169, 149, 7, 92, 70, 30, 249, 179, 55, 181, 184, 222, 200, 36, 11, 214, 51, 40] := by rw [macF, nonL_i, nonL_o]

def masL : List UInt8 := [1, 2, 3, 0, 0, 0, 0, 0, 0, 0, 0, 0, 0, 0, 0, 0, 0, 0, 0, 0, 0, 0, 0, 0, 0, 0, 0, 0, 0, 0, 0, 0]
def helloL : List UInt8 := [104, 101, 108, 108, 111]
theorem ciph_masL : ciphK (masterF masL) = [25, 194, 45, 49, 183, 207, 83, 241, 242, 139, 46, 106, 41, 223, 25, 103, 66, 8, 224, 87, 56, 239, 195, 45, 37, 200, 31, 183, 82, 60, 120, 147] := by
  have h1 : der32 amphL masL [99, 105, 112, 104, 101, 114] = [25, 194, 45, 49, 183, 207, 83, 241, 242, 139, 46, 106, 41, 223, 25, 103, 66, 8, 224, 87, 56, 239, 195, 45, 37, 200, 31, 183, 82, 60, 120, 147] := by
    rw [der32_one]
    have : macF amphL masL = [118, 92, 58, 46, 103, 117, 162, 235, 62, 228, 226, 112, 51, 35, 33, 206, 202, 133, 127, 90, 47, 125, 250, 51, 61, 174, 216, 170, 149, 117, 48, 31] := prkL
    rw [this]
    exact cipL
  rw [ciphK, masterF, List.append_assoc, List.take_left' (der32_len _ _ _), h1]
theorem name_masL : nameK (masterF masL) = [246, 117, 89, 46, 241, 160, 252, 137, 7, 75, 100, 10, 119, 234, 118, 6, 101, 4, 232, 227, 99, 7, 44, 164, 81, 22, 200, 66, 208, 47, 218, 132] := by
  have h1 : der32 amphL masL [110, 97, 109, 101] = [246, 117, 89, 46, 241, 160, 252, 137, 7, 75, 100, 10, 119, 234, 118, 6, 101, 4, 232, 227, 99, 7, 44, 164, 81, 22, 200, 66, 208, 47, 218, 132] := by
    rw [der32_one]
    have : macF amphL masL = [118, 92, 58, 46, 103, 117, 162, 235, 62, 228, 226, 112, 51, 35, 33, 206, 202, 133, 127, 90, 47, 125, 250, 51, 61, 174, 216, 170, 149, 117, 48, 31] := prkL
    rw [this]
    exact namL
  rw [nameK, masterF, List.drop_left' (by simp), List.take_of_length_le (by simp), h1]
theorem nonce_masL : nonceF (masterF masL) 2 [99] helloL = [90, 154, 236, 187, 176, 44, 202, 234, 249, 42, 10, 200] := by
  have h1 : packL [[2], [99], helloL] = [1, 2, 1, 99, 5, 104, 101, 108, 108, 111] := by kernel_rfl
  rw [nonceF, name_masL, h1, nonL]
  rfl
theorem over_masL : overF (masterF masL) (nonceF (masterF masL) 2 [99] helloL) helloL ≠ helloL := by
  rw [nonce_masL, overF, ciph_masL]
  intro h
  have h1 := congrArg (fun l => l.getD 0 0) h
  have h2 : ((xorR [25, 194, 45, 49, 183, 207, 83, 241, 242, 139, 46, 106, 41, 223, 25, 103, 66, 8, 224, 87, 56, 239, 195, 45, 37, 200, 31, 183, 82, 60, 120, 147] [90, 154, 236, 187, 176, 44, 202, 234, 249, 42, 10, 200] 0 helloL).getD 0 0 == helloL.getD 0 0) = false := by kernel_rfl
  rw [h1] at h2
  simp at h2

theorem xorL_two (key nonce : List UInt8) (p : Nat) (l : List UInt8) : xorL key nonce p (xorL key nonce p l) = l := by
  apply List.ext_getElem?
  intro i
  simp only [xorL, List.getElem?_mapIdx]
  cases l[i]? with
  | none => rfl
  | some b => simp [UInt8.xor_assoc]

theorem overF_two (K nonce plain : List UInt8) (h : plain.length ≤ 274877906944) : overF K nonce (overF K nonce plain) = plain ∧ (overF K nonce plain).length = plain.length := by
  have h1 : ∀ l : List UInt8, l.length ≤ 274877906944 → overF K nonce l = xorL (ciphK K) nonce 0 l := fun l hl => by
    have : roomF 0 l.length = true := by simp [roomF]; omega
    rw [overF, xorR, if_pos this]; rfl
  rw [h1 plain h, h1 _ (by rw [xorL_len]; exact h), xorL_two, xorL_len]
  exact ⟨rfl, rfl⟩

theorem sealF_len (K : List UInt8) (k : UInt8) (ctx plain : List UInt8) (h : plain.length ≤ 274877906944) : (sealF K k ctx plain).length = plain.length + 45 := by
  simp [sealF, (overF_two K (nonceF K k ctx plain) plain h).2]; omega

theorem sealF_parts (K : List UInt8) (k : UInt8) (ctx plain : List UInt8) (h : plain.length ≤ 274877906944) : (sealF K k ctx plain).getD 0 0 = k ∧ bNonce (sealF K k ctx plain) = nonceF K k ctx plain ∧ bBody (sealF K k ctx plain) = overF K (nonceF K k ctx plain) plain ∧
    bTag (sealF K k ctx plain) = tagF K k ctx (nonceF K k ctx plain) (overF K (nonceF K k ctx plain) plain) := by
  have hl := sealF_len K k ctx plain h
  have h2 := (overF_two K (nonceF K k ctx plain) plain h).2
  have hn := nonceF_len K k ctx plain
  obtain ⟨nn, hnn⟩ : ∃ n, nonceF K k ctx plain = n := ⟨_, rfl⟩
  obtain ⟨bd, hbd⟩ : ∃ n, overF K nn plain = n := ⟨_, rfl⟩
  rw [hnn] at h2 hn ⊢
  rw [hbd] at h2 ⊢
  obtain ⟨tg, htg⟩ : ∃ n, tagF K k ctx nn bd = n := ⟨_, rfl⟩
  have ht : tg.length = 32 := by rw [← htg]; simp
  have hs : sealF K k ctx plain = [k] ++ nn ++ bd ++ tg := by rw [sealF, hnn, hbd, htg]
  rw [htg]
  rw [bBody, bTag, hl, hs, bNonce]
  have d1 : ([k] ++ nn ++ bd ++ tg).drop 1 = nn ++ (bd ++ tg) := by simp
  have d13 : ([k] ++ nn ++ bd ++ tg).drop 13 = bd ++ tg := by
    rw [List.append_assoc]; exact List.drop_left' (by simp [hn])
  refine ⟨by simp, ?_, ?_, ?_⟩
  · rw [d1]; exact List.take_left' hn
  · rw [d13]; exact List.take_left' (by omega)
  · exact List.drop_left' (by simp [hn, h2]; omega)

theorem open_sealF (K : List UInt8) (k : UInt8) (ctx plain : List UInt8) (h : plain.length ≤ 274877906944) : openF K k ctx (sealF K k ctx plain) = some plain := by
  obtain ⟨p1, p2, p3, p4⟩ := sealF_parts K k ctx plain h
  have hl := sealF_len K k ctx plain h
  rw [openF, if_neg (by rw [p1, hl]; simp), p2, p3, p4, if_pos rfl, (overF_two K _ plain h).1]

theorem open_other (K : List UInt8) (k k' : UInt8) (ctx plain : List UInt8) (h : plain.length ≤ 274877906944) (hk : k ≠ k') : openF K k' ctx (sealF K k ctx plain) = none := by
  obtain ⟨p1, _⟩ := sealF_parts K k ctx plain h
  rw [openF, if_pos (.inr (by rw [p1]; exact hk))]

end Go.Proofs.YtmdandkoajocpaaGreatDoor
