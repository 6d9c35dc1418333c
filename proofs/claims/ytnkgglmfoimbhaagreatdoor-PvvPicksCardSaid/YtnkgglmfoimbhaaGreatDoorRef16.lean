/- The contract of lockboxref16.Of. -/
import Derived.Test.YtnkgglmfoimbhaaGreatDoorLaw16
import Derived.Test.YtnkgglmfoimbhaaGreatDoorRef3G
import Derived.Test.YtnkgglmfoimbhaaGreatDoorRef8E
import Derived.Test.YtnkgglmfoimbhaaGreatDoorRefW
namespace Go.Proofs.YtnkgglmfoimbhaaGreatDoor
open Go Go.RowKit Pr

set_option maxHeartbeats 2000000 in
theorem ref16_bad (A : Option Addr) (n cp : Nat) (number : Int) (pan p : ByteArray) (hp : pan.size ≤ 140737488351232) (hd : p.size ≤ 140737488351232) (er : Er) (he : pvvEr n number pan.data.toList p.data.toList = er) (hne : er ≠ .ok) (w : World) :
    Calls Tryz.prog 16 #[.slice A n cp, .int .i64 number, .string pan, .string p] w fun e w' => e = .returned (.tuple #[.string ⟨#[]⟩, .int .i64 (erCode er), .int .i64 (erAt er)]) ∧ w = w' := by
  have HP := fun W => wrongR_any p hd 4 12 (by omega) (by omega) W
  have HA := fun W => wrongR_any pan hp 13 19 (by omega) (by omega) W
  have hc1 := decEr_cases p.data.toList 4 12
  have hc2 := decEr_cases pan.data.toList 13 19
  by_cases h1 : number < 0 ∨ 9 < number
  · obtain rfl : er = .no 1 := by rw [← he]; unfold pvvEr; rw [if_pos h1]
    have f1 : erCode (.no 1) = 1 := rfl
    have f2 : erAt (.no 1) = -1 := rfl
    rw [f1, f2]
    clear he hne HP HA hc1 hc2 f1 f2
    rcases h1 with h1 | h1
    · go_enter Tryz.func16, Tryz.ntmps16
      go_wp2
      go_ret3
      exact ⟨rfl, rfl⟩
    · have h0 : ¬ number < 0 := by omega
      go_enter Tryz.func16, Tryz.ntmps16
      go_wp2
      go_ret3
      exact ⟨rfl, rfl⟩
  · have h0 : ¬ number < 0 := by omega
    have h9 : ¬ 9 < number := by omega
    by_cases h2 : n = 16
    · have t1 : ((n : Int) != 16) = false := by rw [bne_eq_false_iff_eq]; omega
      have hb : er = bothEr p.data.toList pan.data.toList := by rw [← he]; unfold pvvEr; rw [if_neg h1, if_neg (by omega)]
      clear he h1 h2
      have hdef : bothEr p.data.toList pan.data.toList = match decEr p.data.toList 4 12 with | .ok => decEr pan.data.toList 13 19 | e => e := rfl
      rw [hdef] at hb
      clear hdef
      generalize decEr p.data.toList 4 12 = ep at *
      generalize decEr pan.data.toList 13 19 = ea at *
      have key : ∀ (c t : Int), c = erCode er → t = erAt er → (c != 0) = true →
          ((∀ W, Calls Tryz.prog 30 #[.string p, .int .i64 4, .int .i64 12] W fun e w' => e = .returned (.tuple #[.int .i64 c, .int .i64 t]) ∧ W = w') ∨
           ((∀ W, Calls Tryz.prog 30 #[.string p, .int .i64 4, .int .i64 12] W fun e w' => e = .returned (.tuple #[.int .i64 0, .int .i64 (-1)]) ∧ W = w') ∧
            (∀ W, Calls Tryz.prog 30 #[.string pan, .int .i64 13, .int .i64 19] W fun e w' => e = .returned (.tuple #[.int .i64 c, .int .i64 t]) ∧ W = w'))) →
          Calls Tryz.prog 16 #[.slice A n cp, .int .i64 number, .string pan, .string p] w fun e w' => e = .returned (.tuple #[.string ⟨#[]⟩, .int .i64 (erCode er), .int .i64 (erAt er)]) ∧ w = w' := by
        intro c t hc ht hc0 hor
        rw [← hc, ← ht]
        clear hc ht HP HA hb hc1 hc2 hne
        have hz : (c == 0) = false := by rw [beq_eq_false_iff_ne]; rw [bne_iff_ne] at hc0; exact hc0
        rcases hor with H | ⟨H, K⟩
        · have H := Lib.hid H
          go_enter Tryz.func16, Tryz.ntmps16
          go_wp2_with fail
          refine (H.out _).mono ?_
          rintro e w1 ⟨rfl, rfl⟩
          go_wp2
          go_ret3
          exact ⟨rfl, rfl⟩
        · have G := Lib.hid H; clear H
          have L := Lib.hid K; clear K
          go_enter Tryz.func16, Tryz.ntmps16
          go_wp2_with fail
          refine (G.out _).mono ?_
          rintro e w1 ⟨rfl, rfl⟩
          go_wp2_with fail
          refine (L.out _).mono ?_
          rintro e w1 ⟨rfl, rfl⟩
          go_wp2
          go_ret3
          exact ⟨rfl, rfl⟩
      have hcode : ∀ e : Er, e = .no 2 ∨ (∃ k : Nat, e = .fa k 16) ∨ e = .ok → e ≠ .ok → (erCode e != 0) = true := fun e h hn => by
        rcases h with h | ⟨k, h⟩ | h
        · rw [h]; rfl
        · rw [h]; rfl
        · exact absurd h hn
      by_cases hep : ep = .ok
      · subst hep
        have hb' : er = ea := hb
        subst hb'
        exact key _ _ rfl rfl (hcode _ hc2 hne) (.inr ⟨HP, HA⟩)
      · have hb' : er = ep := by
          cases ep with
          | ok => exact absurd rfl hep
          | no m => exact hb
          | fa q m => exact hb
        subst hb'
        exact key _ _ rfl rfl (hcode _ hc1 hne) (.inl HP)
    · obtain rfl : er = .no 2 := by rw [← he]; unfold pvvEr; rw [if_neg h1, if_pos h2]
      have t1 : ((n : Int) != 16) = true := by rw [bne_iff_ne]; omega
      have f1 : erCode (.no 2) = 2 := rfl
      have f2 : erAt (.no 2) = -1 := rfl
      rw [f1, f2]
      clear he hne h1 h2 HP HA hc1 hc2 f1 f2
      go_enter Tryz.func16, Tryz.ntmps16
      go_wp2
      go_ret3
      exact ⟨rfl, rfl⟩

set_option maxHeartbeats 4000000 in
set_option maxRecDepth 100000 in
theorem ref16_ok (key : List Nat) (hkl : key.length = 16) (hkb : ∀ c ∈ key, c < 256) (n : Nat) (hn : n < 10) (pan p : ByteArray) (hok : bothEr p.data.toList pan.data.toList = .ok) (A : Option Addr) (cp : Nat) (hcp : 16 ≤ cp) (w : World) (hA : At w A key) :
    Calls Tryz.prog 16 #[.slice A 16 cp, .int .i64 n, .string pan, .string p] w fun e w' => e = .returned (.tuple #[.string (str (pvvVal key n pan.data.toList p.data.toList)), .int .i64 0, .int .i64 (-1)]) ∧ Below w.heap.size w w' := by
  obtain ⟨hp1, ha1⟩ := bothEr_ok hok
  obtain ⟨h13, h19, had⟩ := acc_ok pan ha1
  obtain ⟨h4, h12, hpd⟩ := pn_ok p hp1
  have hal : pan.data.toList.length = pan.size := by simp
  have hpl : p.data.toList.length = p.size := by simp
  have HP := fun W => wrongR_any p (by omega) 4 12 (by omega) (by omega) W
  have HA := fun W => wrongR_any pan (by omega) 13 19 (by omega) (by omega) W
  rw [hp1, show erCode .ok = 0 from rfl, show erAt .ok = -1 from rfl] at HP
  rw [ha1, show erCode .ok = 0 from rfl, show erAt .ok = -1 from rfl] at HA
  have HP := Lib.hid HP
  have HA := Lib.hid HA
  have HI := Lib.hid (fun W => digit8_any n (by omega) W)
  have hth := pvvText_hex pan.data.toList n p.data.toList hn had hpd
  have htl := pvvText_len pan.data.toList n p.data.toList (by omega) (by omega)
  have hcut : (pan.extract (pan.size - 12) (pan.size - 1) ++ str [hexd n]) ++ p.extract 0 4 = str (pvvText pan.data.toList n p.data.toList) := by
    have e1 : pan.extract (pan.size - 12) (pan.size - 1) = str ((pan.data.toList.drop (pan.size - 12)).take 11) := by
      conv => lhs; rw [← str_of pan, str_extract]
      congr 2
      rw [str_of]; omega
    have e2 : p.extract 0 4 = str (p.data.toList.take 4) := by
      conv => lhs; rw [← str_of p, str_extract]
      simp
    rw [e1, e2, str_add, str_add]
    unfold pvvText
    rw [hal]
  have hU : ∀ W, Calls Tryz.prog 45 #[.string (str (pvvText pan.data.toList n p.data.toList))] W fun e w' => (∃ v, e = .returned v ∧ Own w' W.heap.size v (unhexL (pvvText pan.data.toList n p.data.toList))) ∧ Below W.heap.size W w' :=
    fun W => unhexR_any _ (by rw [str_size, htl]; decide) (by rw [str_list]; exact hth) (by rw [str_size, htl]) W
  have HU := Lib.hid hU; clear hU
  have hul : (unhexL (pvvText pan.data.toList n p.data.toList)).length = 8 := by rw [unhexL_len, htl]
  have hult := unhexL_lt hth
  have hdef : pvvVal key n pan.data.toList p.data.toList = (pickL (hexL (triple16 (key.take 8) (key.drop 8) (unhexL (pvvText pan.data.toList n p.data.toList)) false))).take 4 := rfl
  rw [hdef]
  clear hdef
  generalize str (pvvText pan.data.toList n p.data.toList) = S at *
  generalize unhexL (pvvText pan.data.toList n p.data.toList) = U at *
  have HT := Lib.hid (fun B cb W hA hB => triple3_any key U hkl hkb hul hult A B cp cb hcp W hA hB)
  have hvl := triple16_len (key.take 8) (key.drop 8) U false
  have hvlt := triple16_lt (key.take 8) (key.drop 8) U false
  generalize triple16 (key.take 8) (key.drop 8) U false = V at *
  have hhl := hexL_len V
  rw [hvl] at hhl
  have hhh := hexL_hex V hvlt
  have HH := Lib.hid (fun A cp W hA => hexR_any V hvlt (by omega) A cp W hA)
  rw [hvl] at HH
  have HPK := Lib.hid (fun W => pickR_any (str (hexL V)) (by rw [str_size]; omega) (by rw [str_list]; exact hhh) W)
  rw [str_list] at HPK
  have hpl4 := pickL_len (hexL V)
  have hcutR : (str (pickL (hexL V))).extract 0 4 = str ((pickL (hexL V)).take 4) := by rw [str_extract]; simp
  have hps : (str (pickL (hexL V))).size = 16 := by rw [str_size, hpl4, hhl]
  generalize str ((pickL (hexL V)).take 4) = R at *
  generalize str (pickL (hexL V)) = PK at *
  generalize str (hexL V) = HV at *
  have hpsI : (4 : Int) ≤ PK.size := by omega
  have HCR := Lib.hid hcutR; clear hcutR hps
  clear hpl4 hhh hhl hvlt hth htl
  have HVL := Lib.hid hvl; clear hvl
  have HUL := Lib.hid hul; clear hul hult hkl hkb hp1 ha1 hok had hpd
  have hAW : ∀ W, Below w.heap.size w W → At W A key := fun W hW => hA.below hW (Nat.le_refl _)
  have HAW := Lib.hid hAW; clear hAW hA
  have HCUT := Lib.hid hcut; clear hcut
  have s1 : (pan.extract (pan.size - 12) (pan.size - 1)).size ≤ 11 := by rw [ByteArray.size_extract]; omega
  have s2 : (p.extract 0 4).size ≤ 4 := by rw [ByteArray.size_extract]; omega
  have s3 : (str [hexd n]).size ≤ 1 := by rw [str_size]; exact Nat.le_refl _
  have hsd : (⟨#[hexd n]⟩ : ByteArray) = str [hexd n] := rfl
  rw [hsd] at HI
  clear hsd
  obtain ⟨I, hI⟩ : ∃ I, str [hexd n] = I := ⟨_, rfl⟩
  rw [hI] at HI HCUT s3
  clear hI hal hpl
  obtain ⟨X, hX⟩ : ∃ X, pan.extract (pan.size - 12) (pan.size - 1) = X := ⟨_, rfl⟩
  obtain ⟨P4, hP4⟩ : ∃ P4, p.extract 0 4 = P4 := ⟨_, rfl⟩
  rw [hX] at HCUT s1
  rw [hP4] at HCUT s2
  have HX := Lib.hid hX; clear hX
  have HP4 := Lib.hid hP4; clear hP4
  have b1 : ¬ 9223372036854775807 < X.size + I.size := by omega
  have w1 : IntKind.i64.wrap ((pan.size : Int) - 12) = (pan.size : Int) - 12 := IntWalk.i64_in _ (by omega)
  have w2 : IntKind.i64.wrap ((pan.size : Int) - 1) = (pan.size : Int) - 1 := IntWalk.i64_in _ (by omega)
  have e1 : ((pan.size : Int) - 12).toNat = pan.size - 12 := by omega
  have e2 : ((pan.size : Int) - 1).toNat = pan.size - 1 := by omega
  have W1 := Lib.hid w1; clear w1
  have W2 := Lib.hid w2; clear w2
  have E1 := Lib.hid e1; clear e1
  have E2 := Lib.hid e2; clear e2
  rename_i HP' HA'
  clear HP' HA'
  go_enter Tryz.func16, Tryz.ntmps16
  go_wp2_with fail
  refine (HP.out _).mono ?_
  rintro e w1 ⟨rfl, rfl⟩
  go_wp2_with fail
  refine (HA.out _).mono ?_
  rintro e w1 ⟨rfl, rfl⟩
  go_wp2_with fail
  refine wp_region_tree (.q 0 (.q 1 (.q 2 (.q 3 (.q 4 (.q 5 (.q 6 (.q 7 (.q 8 (.q 11 (.q 12 (.e [9] fun _ => .q 10 (.q 13 (.q 14 (.done))))))))))))))) (fun W => Below w.heap.size w W) rfl (by kernel_rfl) (fun _ _ d _ _ h => by cases d <;> exact h) ?_
  have hw : Below w.heap.size w w.drew := below_drewN (Below.refl _ _) 1
  iterate 3 (refine t_q rfl rfl hw _ (fun W hW => by (go_simp; rfl)) ?_; go_simp)
  refine t_q rfl rfl hw (.int .i64 ((pan.size : Int) - 12)) (fun W hW => by (go_simp; exact W1.out)) ?_
  go_simp
  iterate 2 (refine t_q rfl rfl hw _ (fun W hW => by (go_simp; rfl)) ?_; go_simp)
  refine t_q rfl rfl hw (.int .i64 ((pan.size : Int) - 1)) (fun W hW => by (go_simp; exact W2.out)) ?_
  go_simp
  refine t_q rfl rfl hw (.string X) (fun W hW => by (rw [← HX.out]; have e1 := E1.out; have e2 := E2.out; go_simp; rw [if_pos ⟨by omega, by omega⟩, if_pos (by omega)])) ?_
  go_simp
  iterate 2 (refine t_q rfl rfl hw _ (fun W hW => by (go_simp; rfl)) ?_; go_simp)
  refine t_q rfl rfl hw (.string P4) (fun W hW => by (rw [← HP4.out]; go_simp; intro h; omega)) ?_
  go_simp
  refine t_e rfl rfl fun K hK => ?_
  go_simp
  refine (HI.out _).mono ?_
  rintro e w3 ⟨rfl, hb3⟩
  have hw3 := hw.trans (hb3.mono hw.size)
  refine hK _ _ hw3 ?_
  clear hK K hb3
  go_simp
  refine t_q rfl rfl hw3 (.string (X ++ I)) (fun W hW => by (go_simp)) ?_
  go_simp
  refine t_q rfl rfl hw3 (.string S) (fun W hW => by (rw [← HCUT.out]; go_simp; omega)) ?_
  go_simp
  refine t_q rfl rfl hw3 _ (fun W hW => by (go_simp; rfl)) ?_
  go_simp
  refine t_done ?_
  clear hw
  go_wp2_with fail
  refine (HU.out _).mono ?_
  rintro e w4 ⟨⟨v, rfl, hv⟩, hb4⟩
  obtain ⟨gu, cu, rfl, hgu, hcu, hgul, hBU⟩ := hv.form (by intro h; have := HUL.out; rw [h] at this; cases this)
  rw [HUL.out] at hcu ⊢
  have hbel4 := hw3.trans (hb4.mono hw3.size)
  clear hb4 hv
  go_wp2_with fail
  refine (HT.out _ _ _ (HAW.out _ hbel4) (fun _ => ⟨_, _, rfl, hBU⟩)).mono ?_
  rintro e w5 ⟨⟨v, rfl, hv⟩, hb5⟩
  obtain ⟨gv, cv, rfl, hgv, hcv, hgvl, hBV⟩ := hv.form (by intro h; have := HVL.out; rw [h] at this; cases this)
  rw [HVL.out] at hcv ⊢
  have hbel5 := hbel4.trans (hb5.mono hbel4.size)
  clear hb5 hv
  go_wp2_with fail
  refine (HH.out _ _ _ (fun _ => ⟨_, _, rfl, hBV⟩)).mono ?_
  rintro e w6 ⟨rfl, hb6⟩
  have hbel6 := hbel5.trans (hb6.mono hbel5.size)
  go_wp2_with fail
  refine (HPK.out _).mono ?_
  rintro e w7 ⟨rfl, hb7⟩
  have hbel7 := hbel6.trans (hb7.mono hbel6.size)
  go_wp2
  go_ret3
  exact ⟨by rw [← HCR.out]; rfl, hbel7⟩

theorem ref16_any (key : List Nat) (hkb : ∀ c ∈ key, c < 256) (A : Option Addr) (cp : Nat) (hcp : key.length ≤ cp) (number : Int) (pan p : ByteArray) (hp : pan.size ≤ 140737488351232) (hd : p.size ≤ 140737488351232) (w : World) (hA : At w A key) :
    Calls Tryz.prog 16 #[.slice A key.length cp, .int .i64 number, .string pan, .string p] w fun e w' =>
      e = .returned (.tuple #[.string (str (pvvStr key number pan.data.toList p.data.toList)), .int .i64 (erCode (pvvEr key.length number pan.data.toList p.data.toList)), .int .i64 (erAt (pvvEr key.length number pan.data.toList p.data.toList))]) ∧ Below w.heap.size w w' := by
  by_cases hok : pvvEr key.length number pan.data.toList p.data.toList = .ok
  · have h := hok
    unfold pvvEr at h
    split at h
    · cases h
    · rename_i h1
      split at h
      · cases h
      · rename_i h2
        have hkl : key.length = 16 := by omega
        rw [pvvStr_ok hok, hok, hkl]
        obtain ⟨n, rfl⟩ : ∃ n : Nat, number = n := ⟨number.toNat, by omega⟩
        exact ref16_ok key hkl hkb n (by omega) pan p h A cp (by omega) w hA
  · rw [pvvStr_bad hok]
    refine (ref16_bad A key.length cp number pan p hp hd _ rfl hok w).mono ?_
    rintro e w' ⟨rfl, rfl⟩
    exact ⟨rfl, Below.refl _ _⟩
end Go.Proofs.YtnkgglmfoimbhaaGreatDoor
