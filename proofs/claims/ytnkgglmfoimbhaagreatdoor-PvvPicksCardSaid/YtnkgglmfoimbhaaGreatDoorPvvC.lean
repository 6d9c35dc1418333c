/- lockboxlaw16.PvvPicks, PvvOfs, PvvAsks: the walks. -/
import Derived.Test.YtnkgglmfoimbhaaGreatDoorRef16
import Derived.Test.YtnkgglmfoimbhaaGreatDoorCode
namespace Go.Proofs.YtnkgglmfoimbhaaGreatDoor
open Go Go.RowKit Pr

theorem str_neq {a b : ByteArray} (h : ¬ a = b) : (a.toList == b.toList) = false := by
  rw [beq_eq_false_iff_ne, ByteArray.toList_eq, ByteArray.toList_eq]
  intro h2
  apply h
  apply ByteArray.ext
  exact Array.toList_inj.1 h2

set_option maxHeartbeats 2000000 in
set_option maxRecDepth 100000 in
theorem picks16 (s : ByteArray) (hs : s.size ≤ 140737488351232) (n : Int) (w : World) (hG : EtOk w) :
    Calls Tryz.prog 3 #[.string s, .int .i64 n] w fun e w' => e = .returned (.bool true) ∧ Below w.heap.size w w' := by
  by_cases hsz : s.size ≤ 200
  · have HP := fun W => pick_any s hs n W
    have HF := fun W => refFirst16 s hs W
    have hl : s.data.toList.length = s.size := by simp
    have F16 := Lib.hid HF; clear HF
    cases hbad : badAt isHex s.data.toList with
    | some k =>
      have hE : pickEr s.data.toList n = .fa k 16 := by unfold pickEr; rw [hbad]
      have hz : badZ isHex s.data.toList = k := by unfold badZ; rw [hbad]
      rw [hE, pickV_fa hE] at HP
      rw [hz] at F16
      have HP := Lib.hid HP
      have hk0 : (0 : Int) ≤ (k : Int) := by omega
      clear hbad hE hz
      rename_i HPo
      clear HPo
      go_enter Tryz.func3, Tryz.ntmps3
      go_wp2_with fail
      refine (awake16_any _).mono ?_
      rintro e w1 ⟨rfl, hb1⟩
      go_wp2_with fail
      refine (HP.out _).mono ?_
      rintro e w2 ⟨⟨v, rfl, hv⟩, hb2⟩
      have hbel2 := hb1.trans (hb2.mono hb1.size)
      have HV := Lib.hid hv; clear hv
      go_wp2_with fail
      refine (F16.out _).mono ?_
      rintro e w3 ⟨rfl, rfl⟩
      go_wp2_with fail
      refine (code_any _ _ _ _ HV.out (hG.below hbel2 (Nat.le_refl _))).mono ?_
      rintro e w4 ⟨rfl, hb4⟩
      have hbel4 := hbel2.trans (hb4.mono hbel2.size)
      have HV4 := Lib.hid (HV.out.below hb4 (Nat.le_refl _))
      have f1 : erCode (.fa (k : Int) 16) = 16 := rfl
      go_wp2_with fail
      refine (at_any _ _ _ _ HV4.out (hG.below hbel4 (Nat.le_refl _))).mono ?_
      rintro e w5 ⟨rfl, hb5⟩
      have f2 : erAt (.fa (k : Int) 16) = k := rfl
      go_wp2
      go_ret
      exact ⟨rfl, hbel4.trans (hb5.mono hbel4.size)⟩
    | none =>
      have hz : badZ isHex s.data.toList = -1 := by unfold badZ; rw [hbad]
      rw [hz] at F16
      have hhex := all_of_badAt hbad
      by_cases hn : n < 0 ∨ (s.size : Int) < n
      · have hE : pickEr s.data.toList n = .no 2 := by
          unfold pickEr
          split
          · rename_i k hk; rw [hbad] at hk; cases hk
          · rw [if_pos (by rw [hl]; exact hn)]
        rw [hE, pickV_no hE] at HP
        have HP := Lib.hid HP
        clear hbad hE hz hhex hl
        rename_i HPo
        clear HPo
        have hor : n < 0 ∨ (¬ n < 0 ∧ (s.size : Int) < n) := by omega
        clear hn
        rcases hor with h1 | ⟨h1, h2⟩
        all_goals
          go_enter Tryz.func3, Tryz.ntmps3
          go_wp2_with fail
          refine (awake16_any _).mono ?_
          rintro e w1 ⟨rfl, hb1⟩
          go_wp2_with fail
          refine (HP.out _).mono ?_
          rintro e w2 ⟨⟨v, rfl, hv⟩, hb2⟩
          have hbel2 := hb1.trans (hb2.mono hb1.size)
          have HV := Lib.hid hv; clear hv
          go_wp2_with fail
          refine (F16.out _).mono ?_
          rintro e w3 ⟨rfl, rfl⟩
          go_wp2_with fail
          refine (code_any _ _ _ _ HV.out (hG.below hbel2 (Nat.le_refl _))).mono ?_
          rintro e w4 ⟨rfl, hb4⟩
          have hbel4 := hbel2.trans (hb4.mono hbel2.size)
          have f1 : erCode (.no 2) = 2 := rfl
          go_wp2
          go_ret
          exact ⟨rfl, hbel4⟩
      · obtain ⟨m, rfl⟩ : ∃ m : Nat, n = m := ⟨n.toNat, by omega⟩
        have hE := pickEr_hex s.data.toList m hhex (by omega)
        have hV := pickV_hex s.data.toList m hhex (by omega)
        rw [hE, hV] at HP
        have HP := Lib.hid HP
        have HR := Lib.hid (fun W => pickR_any s (by omega) hhex W)
        have hcut : (str (pickL s.data.toList)).extract 0 m = str ((pickL s.data.toList).take m) := by rw [str_extract]; simp
        have hps : (str (pickL s.data.toList)).size = s.size := by rw [str_size, pickL_len, hl]
        rename_i HPo
        clear HPo hV hE hbad hz hhex hl
        generalize str ((pickL s.data.toList).take m) = R at *
        generalize str (pickL s.data.toList) = PK at *
        have hmP : (m : Int) ≤ PK.size := by omega
        have hm1 : ¬ (m : Int) < 0 := by omega
        have hm2 : ¬ (s.size : Int) < m := by omega
        have HC := Lib.hid hcut; clear hcut hps
        go_enter Tryz.func3, Tryz.ntmps3
        go_wp2_with fail
        refine (awake16_any _).mono ?_
        rintro e w1 ⟨rfl, hb1⟩
        go_wp2_with fail
        refine (HP.out _).mono ?_
        rintro e w2 ⟨⟨v, rfl, hv⟩, hb2⟩
        obtain rfl : v = _ := hv
        have hbel2 := hb1.trans (hb2.mono hb1.size)
        go_wp2_with fail
        refine (F16.out _).mono ?_
        rintro e w3 ⟨rfl, rfl⟩
        go_wp2_with fail
        refine (HR.out _).mono ?_
        rintro e w4 ⟨rfl, hb4⟩
        have hbel4 := hbel2.trans (hb4.mono hbel2.size)
        have hc := HC.out
        go_wp2
        go_ret
        exact ⟨rfl, hbel4⟩
  · have h1 : 200 < s.size := by omega
    clear hsz
    go_enter Tryz.func3, Tryz.ntmps3
    go_wp2_with fail
    refine (awake16_any _).mono ?_
    rintro e w1 ⟨rfl, hb1⟩
    go_wp2_with fail
    refine (awake16_any _).mono ?_
    rintro e w2 ⟨rfl, hb2⟩
    go_wp2
    go_ret
    exact ⟨rfl, hb1.trans (hb2.mono hb1.size)⟩

set_option maxHeartbeats 2000000 in
set_option maxRecDepth 100000 in
theorem ofs16 (w : World) (l : List Nat) (hb : ∀ c ∈ l, c < 256) (A : Option Addr) (cp : Nat) (hcp : l.length ≤ cp) (_hlen : l.length ≤ 140737488351232) (hA : At w A l) (number : Int) (pan : ByteArray) (hp : pan.size ≤ 140737488351232) (p : ByteArray) (hd : p.size ≤ 140737488351232) (hG : EtOk w) :
    Calls Tryz.prog 4 #[.slice A l.length cp, .int .i64 number, .string pan, .string p] w fun e w' => e = .returned (.bool true) ∧ Below w.heap.size w w' := by
  have hAt : ∀ W, Below w.heap.size w W → At W A l := fun W hW => hA.below hW (Nat.le_refl _)
  have HAT := Lib.hid hAt; clear hAt hA
  have HO := Lib.hid (fun W hA => pvvOf_any l hb A cp number pan p hp hd W hA)
  have HR := Lib.hid (fun W hA => ref16_any l hb A cp hcp number pan p hp hd W hA)
  generalize str (pvvStr l number pan.data.toList p.data.toList) = S at *
  generalize pvvEr l.length number pan.data.toList p.data.toList = er at *
  generalize l.length = n at *
  clear hb
  by_cases hall : n ≤ 100 ∧ pan.size ≤ 100 ∧ p.size ≤ 100
  · obtain ⟨h1, h2, h3⟩ := hall
    go_enter Tryz.func4, Tryz.ntmps4
    go_wp2_with fail
    refine (awake16_any _).mono ?_
    rintro e w1 ⟨rfl, hb1⟩
    go_wp2_with fail
    refine (HO.out _ (HAT.out _ hb1)).mono ?_
    rintro e w2 ⟨⟨v, rfl, hv⟩, hb2⟩
    have hbel2 := hb1.trans (hb2.mono hb1.size)
    have HV := Lib.hid hv; clear hv
    go_wp2_with fail
    refine (HR.out _ (HAT.out _ hbel2)).mono ?_
    rintro e w3 ⟨rfl, hb3⟩
    have hbel3 := hbel2.trans (hb3.mono hbel2.size)
    have HV3 := Lib.hid (HV.out.below hb3 (Nat.le_refl _))
    go_wp2_with fail
    refine (code_any _ _ _ _ HV3.out (hG.below hbel3 (Nat.le_refl _))).mono ?_
    rintro e w4 ⟨rfl, hb4⟩
    have hbel4 := hbel3.trans (hb4.mono hbel3.size)
    have HV4 := Lib.hid (HV3.out.below hb4 (Nat.le_refl _))
    go_wp2_with fail
    refine (at_any _ _ _ _ HV4.out (hG.below hbel4 (Nat.le_refl _))).mono ?_
    rintro e w5 ⟨rfl, hb5⟩
    go_wp2
    go_ret
    exact ⟨rfl, hbel4.trans (hb5.mono hbel4.size)⟩
  · have hor : 100 < n ∨ (n ≤ 100 ∧ 100 < pan.size) ∨ (n ≤ 100 ∧ pan.size ≤ 100 ∧ 100 < p.size) := by omega
    clear hall
    rcases hor with h1 | ⟨h1, h2⟩ | ⟨h1, h2, h3⟩
    all_goals
      go_enter Tryz.func4, Tryz.ntmps4
      go_wp2_with fail
      refine (awake16_any _).mono ?_
      rintro e w1 ⟨rfl, hb1⟩
      go_wp2_with fail
      refine (awake16_any _).mono ?_
      rintro e w2 ⟨rfl, hb2⟩
      go_wp2
      go_ret
      exact ⟨rfl, hb1.trans (hb2.mono hb1.size)⟩

theorem pvvEr_code (n : Nat) (number : Int) (pan p : List UInt8) : pvvEr n number pan p = .ok ∨ (erCode (pvvEr n number pan p) != 0) = true := by
  unfold pvvEr
  split
  · exact .inr rfl
  · split
    · exact .inr rfl
    · unfold bothEr
      split
      · rcases decEr_cases pan 13 19 with h | ⟨k, h⟩ | h
        · rw [h]; exact .inr rfl
        · rw [h]; exact .inr rfl
        · exact .inl h
      · rename_i hne
        rcases decEr_cases p 4 12 with h | ⟨k, h⟩ | h
        · rw [h]; exact .inr rfl
        · rw [h]; exact .inr rfl
        · exact absurd h hne

set_option maxHeartbeats 2000000 in
set_option maxRecDepth 100000 in
theorem asks16 (w : World) (l : List Nat) (hb : ∀ c ∈ l, c < 256) (A : Option Addr) (cp : Nat) (hcp : l.length ≤ cp) (_hlen : l.length ≤ 140737488351232) (hA : At w A l) (number : Int) (pan : ByteArray) (hp : pan.size ≤ 140737488351232) (p : ByteArray) (hd : p.size ≤ 140737488351232) (value : ByteArray) (hv : value.size ≤ 140737488351232) (hG : EtOk w) :
    Calls Tryz.prog 5 #[.slice A l.length cp, .int .i64 number, .string pan, .string p, .string value] w fun e w' => e = .returned (.bool true) ∧ Below w.heap.size w w' := by
  have hAt : ∀ W, Below w.heap.size w W → At W A l := fun W hW => hA.below hW (Nat.le_refl _)
  have HAT := Lib.hid hAt; clear hAt hA
  have HO := Lib.hid (fun W hA => pvvVerify_any l hb A cp number pan p value hp hd hv W hA)
  have HR := Lib.hid (fun W hA => ref16_any l hb A cp hcp number pan p hp hd W hA)
  have hver : pverEr l number pan.data.toList p.data.toList value.data.toList = match pvvEr l.length number pan.data.toList p.data.toList with
    | .ok => if pvvStr l number pan.data.toList p.data.toList = value.data.toList then .ok else .no 12
    | e => e := rfl
  have hcas := pvvEr_code l.length number pan.data.toList p.data.toList
  generalize pverEr l number pan.data.toList p.data.toList value.data.toList = ver at *
  generalize pvvStr l number pan.data.toList p.data.toList = V at *
  generalize pvvEr l.length number pan.data.toList p.data.toList = er at *
  have hsv : (V = value.data.toList) ↔ value = str V := by
    constructor
    · rintro rfl; rfl
    · rintro rfl; rfl
  generalize str V = SV at *
  generalize l.length = n at *
  clear hb
  by_cases hall : n ≤ 100 ∧ pan.size ≤ 100 ∧ p.size ≤ 100 ∧ value.size ≤ 100
  · obtain ⟨h1, h2, h3, h4⟩ := hall
    have hcase : (ver = er ∧ (erCode er != 0) = true) ∨ (er = .ok ∧ ver = .ok ∧ value = SV) ∨ (er = .ok ∧ ver = .no 12 ∧ (value.toList == SV.toList) = false) := by
      rcases hcas with he | he
      · subst he
        simp only at hver
        by_cases hV : V = value.data.toList
        · rw [if_pos hV] at hver
          exact .inr (.inl ⟨rfl, hver, hsv.1 hV⟩)
        · rw [if_neg hV] at hver
          exact .inr (.inr ⟨rfl, hver, str_neq (fun h => hV (hsv.2 h))⟩)
      · refine .inl ⟨?_, he⟩
        cases er with
        | ok => exact absurd he (by decide)
        | no m => exact hver
        | fa q m => exact hver
    have HCA := Lib.hid hcase; clear hcase
    clear hver hcas hsv
    go_enter Tryz.func5, Tryz.ntmps5
    go_wp2_with fail
    refine (awake16_any _).mono ?_
    rintro e w1 ⟨rfl, hb1⟩
    go_wp2_with fail
    refine (HO.out _ (HAT.out _ hb1)).mono ?_
    rintro e w2 ⟨⟨v, rfl, hv⟩, hb2⟩
    have hbel2 := hb1.trans (hb2.mono hb1.size)
    have HV := Lib.hid hv; clear hv
    go_wp2_with fail
    refine (HR.out _ (HAT.out _ hbel2)).mono ?_
    rintro e w3 ⟨rfl, hb3⟩
    have hbel3 := hbel2.trans (hb3.mono hbel2.size)
    have HV3 := Lib.hid (HV.out.below hb3 (Nat.le_refl _))
    clear HO HR HV
    rcases HCA.out with ⟨rfl, hne⟩ | ⟨rfl, rfl, rfl⟩ | ⟨rfl, rfl, hne⟩
    · clear HCA
      go_wp2_with fail
      refine (code_any _ _ _ _ HV3.out (hG.below hbel3 (Nat.le_refl _))).mono ?_
      rintro e w4 ⟨rfl, hb4⟩
      have hbel4 := hbel3.trans (hb4.mono hbel3.size)
      have HV4 := Lib.hid (HV3.out.below hb4 (Nat.le_refl _))
      go_wp2_with fail
      refine (at_any _ _ _ _ HV4.out (hG.below hbel4 (Nat.le_refl _))).mono ?_
      rintro e w5 ⟨rfl, hb5⟩
      go_wp2
      go_ret
      exact ⟨rfl, hbel4.trans (hb5.mono hbel4.size)⟩
    · clear HCA
      obtain rfl : v = _ := HV3.out
      have f0 : erCode .ok = 0 := rfl
      go_wp2
      go_ret
      exact ⟨rfl, hbel3⟩
    · clear HCA
      have f0 : erCode .ok = 0 := rfl
      go_wp2_with fail
      refine (code_any _ _ _ _ HV3.out (hG.below hbel3 (Nat.le_refl _))).mono ?_
      rintro e w4 ⟨rfl, hb4⟩
      have f1 : erCode (.no 12) = 12 := rfl
      go_wp2
      go_ret
      exact ⟨rfl, hbel3.trans (hb4.mono hbel3.size)⟩
  · have hor : 100 < n ∨ (n ≤ 100 ∧ 100 < pan.size) ∨ (n ≤ 100 ∧ pan.size ≤ 100 ∧ 100 < p.size) ∨ (n ≤ 100 ∧ pan.size ≤ 100 ∧ p.size ≤ 100 ∧ 100 < value.size) := by omega
    clear hall hver hcas hsv
    rcases hor with h1 | ⟨h1, h2⟩ | ⟨h1, h2, h3⟩ | ⟨h1, h2, h3, h4⟩
    all_goals
      go_enter Tryz.func5, Tryz.ntmps5
      go_wp2_with fail
      refine (awake16_any _).mono ?_
      rintro e w1 ⟨rfl, hb1⟩
      go_wp2_with fail
      refine (awake16_any _).mono ?_
      rintro e w2 ⟨rfl, hb2⟩
      go_wp2
      go_ret
      exact ⟨rfl, hb1.trans (hb2.mono hb1.size)⟩
end Go.Proofs.YtnkgglmfoimbhaaGreatDoor
