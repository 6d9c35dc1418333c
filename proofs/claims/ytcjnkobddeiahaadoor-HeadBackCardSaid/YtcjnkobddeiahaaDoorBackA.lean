/- A head that is printed is read as it was; what is read is printed as it stood. -/
import Derived.Test.YtcjnkobddeiahaaDoorPrints10
namespace Go.Proofs.YtcjnkobddeiahaaDoor
open Go Go.RowKit Pr
theorem ext_list (s : ByteArray) (a n : Nat) (h : a + n ≤ s.size) : (s.extract a (a + n)).data.toList = (List.range n).map fun k => chr s (a + k) := by
  have hl := extract_len s a (a + n) h
  apply List.ext_getElem
  · rw [hl]; simp
  · intro k h1 h2
    rw [extract_get s a (a + n) k h h1]
    simp
theorem str_ext {s : ByteArray} {L : List UInt8} (h : s.data.toList = L) : s = str L := by
  apply ByteArray.ext
  exact Array.toList_inj.1 h
theorem numF4 (a b c d : UInt8) : numF [a, b, c, d] = 10 * (10 * (10 * (a.toNat - 48) + (b.toNat - 48)) + (c.toNat - 48)) + (d.toNat - 48) := by simp [numF]
theorem dec_of {c : UInt8} (h : isDec c = true) : 48 ≤ c.toNat ∧ c.toNat ≤ 57 := of_decide_eq_true h
theorem dig4_numF {a b c d : UInt8} (ha : isDec a = true) (hb : isDec b = true) (hc : isDec c = true) (hd : isDec d = true) : dig4 (numF [a, b, c, d]) = [a, b, c, d] ∧ numF [a, b, c, d] ≤ 9999 := by
  have h1 := dec_of ha
  have h2 := dec_of hb
  have h3 := dec_of hc
  have h4 := dec_of hd
  rw [numF4]
  have e : ∀ (n : Nat) (x : UInt8), n = x.toNat → UInt8.ofNat n = x := fun n x h => by rw [h]; exact UInt8.ofNat_toNat
  refine ⟨?_, by omega⟩
  unfold dig4
  rw [e _ a (by omega), e _ b (by omega), e _ c (by omega), e _ d (by omega)]
theorem numZ_dig4 (n : Nat) (h : n ≤ 9999) : numZ (dig4 n) = (n : Int) := by
  have e : ∀ m : Nat, m < 10 → (UInt8.ofNat (48 + m)).toNat = 48 + m := fun m hm => UInt8.toNat_ofNat_of_lt' (show 48 + m < 256 by omega)
  have d : ∀ m : Nat, m < 10 → isDec (UInt8.ofNat (48 + m)) = true := fun m hm => decide_eq_true (by rw [e m hm]; omega)
  have hall : (dig4 n).all isDec = true := by
    unfold dig4
    simp only [List.all_cons, List.all_nil, Bool.and_true, Bool.and_eq_true]
    exact ⟨d _ (by omega), d _ (by omega), d _ (by omega), d _ (by omega)⟩
  have hf : numF (dig4 n) = n := by
    unfold dig4
    rw [numF4, e _ (by omega), e _ (by omega), e _ (by omega), e _ (by omega)]
    omega
  unfold numZ
  rw [if_pos hall]
  show ((numF (dig4 n) : Nat) : Int) = _
  rw [hf]

/-- what is read, is printed as it stood -/
theorem back_parse {s : ByteArray} (h : parseEr s = .ok) : 16 ≤ s.size ∧ rightEr (hdOf s) = .ok ∧ ∃ N : Nat, numOf s = (N : Int) ∧ 16 ≤ N ∧ N ≤ 9999 ∧ str (printL (hdOf s) N) = s.extract 0 16 := by
  unfold parseEr at h
  split at h
  · cases h
  · rename_i hsz
    have hs : 16 ≤ s.size := not_lt_of hsz
    unfold pE at h
    split at h
    · rename_i h1
      rcases rightEr_cases (hdOf s) with h2 | ⟨k, h2, _⟩
      · rw [h2] at h1; cases h1
      · rw [h2] at h; cases h
    · split at h
      · cases h
      · rename_i hN
        split at h
        · rename_i hok
          split at h
          · rename_i hz
            have hr := isOk_true hok
            have hz' : s.extract 12 16 = z4 := of_decide_eq_true hz
            refine ⟨hs, hr, ?_⟩
            have eD := ext_list s 1 4 (by omega)
            have eU := ext_list s 5 2 (by omega)
            have eS := ext_list s 9 2 (by omega)
            have eZ := ext_list s 12 4 (by omega)
            have e16 := ext_list s 0 16 (by omega)
            have eD' : (s.extract 1 5).data.toList = [chr s 1, chr s 2, chr s 3, chr s 4] := eD
            have eU' : (s.extract 5 7).data.toList = [chr s 5, chr s 6] := eU
            have eS' : (s.extract 9 11).data.toList = [chr s 9, chr s 10] := eS
            have eZ' : (s.extract 12 16).data.toList = [chr s 12, chr s 13, chr s 14, chr s 15] := eZ
            have e16' : (s.extract 0 16).data.toList = [chr s 0, chr s 1, chr s 2, chr s 3, chr s 4, chr s 5, chr s 6, chr s 7, chr s 8, chr s 9, chr s 10, chr s 11, chr s 12, chr s 13, chr s 14, chr s 15] := e16
            rw [hz'] at eZ'
            unfold numOf at hN ⊢
            rw [eD'] at hN ⊢
            unfold numZ at hN ⊢
            split at hN
            · rename_i hall
              rw [if_pos hall]
              simp only [List.all_cons, List.all_nil, Bool.and_true, Bool.and_eq_true] at hall
              obtain ⟨a1, a2, a3, a4⟩ := hall
              obtain ⟨g1, g2⟩ := dig4_numF a1 a2 a3 a4
              have hN' : ¬ ((numF [chr s 1, chr s 2, chr s 3, chr s 4] : Nat) : Int) < 16 := hN
              refine ⟨numF [chr s 1, chr s 2, chr s 3, chr s 4], rfl, by omega, g2, ?_⟩
              rw [str_ext e16']
              congr 1
              unfold printL
              rw [g1]
              unfold hdOf
              rw [eU', eS']
              have eZ2 : [48, 48, 48, 48] = [chr s 12, chr s 13, chr s 14, chr s 15] := eZ'
              rw [eZ2]
              rfl
            · exact absurd (by decide : (-1 : Int) < 16) hN
          · cases h
        · rcases rightEr_cases (hdOf s) with h2 | ⟨k, h2, _⟩
          · rename_i hno; rw [h2] at hno; exact absurd rfl hno
          · rw [h2] at h; cases h

/-- a head that is printed is read as it was -/
theorem back_print {h : Hd} (hr : rightEr h = .ok) {n : Nat} (h16 : 16 ≤ n) (h99 : n ≤ 9999) (s : ByteArray) :
    parseEr (str (printL h n) ++ s) = .ok ∧ parseHd (str (printL h n) ++ s) = h ∧ parseN (str (printL h n) ++ s) = (n : Int) ∧ (str (printL h n)).size = 16 := by
  obtain ⟨_, _, _, _, z1, z2⟩ := right_ok hr
  obtain ⟨ua, ub, hU⟩ := two_of z1
  obtain ⟨sa, sb, hS⟩ := two_of z2
  obtain ⟨L, hL⟩ : ∃ L, s = str L := ⟨s.data.toList, rfl⟩
  have hpl : printL h n = [h.ver, UInt8.ofNat (48 + n / 1000), UInt8.ofNat (48 + n / 100 % 10), UInt8.ofNat (48 + n / 10 % 10), UInt8.ofNat (48 + n % 10), ua, ub, h.alg, h.mode, sa, sb, h.exp, 48, 48, 48, 48] := by
    unfold printL dig4
    rw [hU, hS, str_list, str_list]
    rfl
  have hsz : (str (printL h n)).size = 16 := by rw [str_size, hpl]; rfl
  obtain ⟨T, hT⟩ : ∃ T, str (printL h n) ++ s = T := ⟨_, rfl⟩
  have hTl : T = str ([h.ver, UInt8.ofNat (48 + n / 1000), UInt8.ofNat (48 + n / 100 % 10), UInt8.ofNat (48 + n / 10 % 10), UInt8.ofNat (48 + n % 10), ua, ub, h.alg, h.mode, sa, sb, h.exp, 48, 48, 48, 48] ++ L) := by rw [← hT, hL, str_add, hpl]
  rw [hT]
  have hTs : 16 ≤ T.size := by rw [hTl, str_size]; simp
  have eD : (T.extract 1 5).data.toList = [chr T 1, chr T 2, chr T 3, chr T 4] := ext_list T 1 4 (by omega)
  have eU : (T.extract 5 7).data.toList = [chr T 5, chr T 6] := ext_list T 5 2 (by omega)
  have eS : (T.extract 9 11).data.toList = [chr T 9, chr T 10] := ext_list T 9 2 (by omega)
  have eZ : (T.extract 12 16).data.toList = [chr T 12, chr T 13, chr T 14, chr T 15] := ext_list T 12 4 (by omega)
  have hh : hdOf T = h := by
    unfold hdOf
    rw [str_ext eU, str_ext eS, hTl]
    have : h = ⟨h.ver, str [ua, ub], h.alg, h.mode, str [sa, sb], h.exp⟩ := by rw [← hU, ← hS]
    exact this.symm
  have hn : numOf T = (n : Int) := by
    unfold numOf
    rw [eD, ← numZ_dig4 n h99, hTl]
    rfl
  have hz : T.extract 12 16 = z4 := by
    rw [str_ext eZ, hTl]
    rfl
  have he : parseEr T = .ok := by
    unfold parseEr
    rw [if_neg (by omega), hh, hr, hn, hz]
    unfold pE
    rw [if_neg (show ¬ aheadB .ok = true by decide), if_neg (by omega), if_pos (show isOk .ok = true from rfl), if_pos (by simp)]
  refine ⟨he, ?_, ?_, hsz⟩
  · unfold parseHd; rw [he]; exact hh
  · unfold parseN; rw [he]; exact hn
end Go.Proofs.YtcjnkobddeiahaaDoor
