/- The contracts of pvv.Of, pvv.Verify. -/
import Derived.Test.YtnkgglmfoimbhaaDoorBlk
import Derived.Test.YtnkgglmfoimbhaaDoorPinB
import Derived.Test.YtnkgglmfoimbhaaDoorConv
import Derived.Test.YtnkgglmfoimbhaaDoorEqual
namespace Go.Proofs.YtnkgglmfoimbhaaDoor
open Go Go.RowKit Pr

theorem acc_ok (a : ByteArray) (h : decEr a.data.toList 13 19 = .ok) : 13 ≤ a.size ∧ a.size ≤ 19 ∧ ∀ c ∈ a.data.toList, isDec c = true := by
  unfold decEr at h
  split at h
  · cases h
  · rename_i h1
    have hl : a.data.toList.length = a.size := by simp
    split at h
    · cases h
    · rename_i h2
      exact ⟨by omega, by omega, all_of_badAt h2⟩
theorem pn_ok (a : ByteArray) (h : decEr a.data.toList 4 12 = .ok) : 4 ≤ a.size ∧ a.size ≤ 12 ∧ ∀ c ∈ a.data.toList, isDec c = true := by
  unfold decEr at h
  split at h
  · cases h
  · rename_i h1
    have hl : a.data.toList.length = a.size := by simp
    split at h
    · cases h
    · rename_i h2
      exact ⟨by omega, by omega, all_of_badAt h2⟩
theorem bothEr_ok {p a : List UInt8} (h : bothEr p a = .ok) : decEr p 4 12 = .ok ∧ decEr a 13 19 = .ok := by
  unfold bothEr at h
  split at h
  · rename_i hp
    exact ⟨hp, h⟩
  · rename_i hp
    exact absurd h hp

theorem pickEr_hex (s : List UInt8) (n : Nat) (h : ∀ c ∈ s, isHex c = true) (hn : n ≤ s.length) : pickEr s n = .ok := by
  have hb := badAt_none h
  unfold pickEr
  split
  · rename_i k hk
    rw [hb] at hk
    cases hk
  · split
    · rename_i h2
      omega
    · rfl
theorem pickV_hex (s : List UInt8) (n : Nat) (h : ∀ c ∈ s, isHex c = true) (hn : n ≤ s.length) : pickV s n = .string (str ((pickL s).take n)) := by
  unfold pickV pickStr str
  rw [pickEr_hex s n h hn]
  simp
/-- the sixteen digits that are enciphered -/
def pvvText (pan : List UInt8) (n : Nat) (p : List UInt8) : List UInt8 := (pan.drop (pan.length - 12)).take 11 ++ [hexd n] ++ p.take 4
def pvvVal (key : List Nat) (n : Nat) (pan p : List UInt8) : List UInt8 := (pickL (hexL (triple16 (key.take 8) (key.drop 8) (unhexL (pvvText pan n p)) false))).take 4
def pvvEr (kl : Nat) (number : Int) (pan p : List UInt8) : Er := if number < 0 ∨ 9 < number then .no 1 else if kl ≠ 16 then .no 2 else bothEr p pan
def pvvStr (key : List Nat) (number : Int) (pan p : List UInt8) : List UInt8 := match pvvEr key.length number pan p with | .ok => pvvVal key number.toNat pan p | _ => []
theorem pvvText_len (pan : List UInt8) (n : Nat) (p : List UInt8) (h : 13 ≤ pan.length) (h4 : 4 ≤ p.length) : (pvvText pan n p).length = 16 := by unfold pvvText; simp; omega
theorem pvvText_hex (pan : List UInt8) (n : Nat) (p : List UInt8) (hn : n < 10) (h : ∀ c ∈ pan, isDec c = true) (hp : ∀ c ∈ p, isDec c = true) : ∀ c ∈ pvvText pan n p, isHex c = true := by
  intro c hc
  unfold pvvText at hc
  simp only [List.mem_append, List.mem_singleton] at hc
  rcases hc with (h1 | rfl) | h1
  · exact isHex_of_dec (h c (List.mem_of_mem_drop (List.mem_of_mem_take h1)))
  · exact hexd_hex n (by omega)
  · exact isHex_of_dec (hp c (List.mem_of_mem_take h1))
theorem pvvVal_len (key : List Nat) (n : Nat) (pan p : List UInt8) : (pvvVal key n pan p).length = 4 := by
  unfold pvvVal
  rw [List.length_take, pickL_len, hexL_len, triple16_len]
  rfl
theorem pvvStr_ok {key : List Nat} {number : Int} {pan p : List UInt8} (h : pvvEr key.length number pan p = .ok) : pvvStr key number pan p = pvvVal key number.toNat pan p := by unfold pvvStr; rw [h]
theorem pvvStr_bad {key : List Nat} {number : Int} {pan p : List UInt8} (h : pvvEr key.length number pan p ≠ .ok) : pvvStr key number pan p = [] := by
  unfold pvvStr
  split
  · rename_i h'; exact absurd h' h
  · rfl
theorem pvvStr_len (key : List Nat) (number : Int) (pan p : List UInt8) : (pvvStr key number pan p).length ≤ 4 := by
  unfold pvvStr
  split
  · rw [pvvVal_len]; omega
  · simp

set_option maxHeartbeats 2000000 in
theorem pvvOf_bad (A : Option Addr) (n cp : Nat) (number : Int) (pan p : ByteArray) (hp : pan.size ≤ 140737488351232) (hd : p.size ≤ 140737488351232) (er : Er) (he : pvvEr n number pan.data.toList p.data.toList = er) (hne : er ≠ .ok) (w : World) :
    Calls Tryd.prog 20 #[.slice A n cp, .int .i64 number, .string pan, .string p] w fun e w' => (∃ v, e = .returned (.tuple #[.string ⟨#[]⟩, v]) ∧ ErIs w' w.heap.size v er) ∧ Below w.heap.size w w' := by
  have HP := Lib.hid (fun W => right_pin p hd W)
  have HA := Lib.hid (fun W => account_any pan hp W)
  by_cases h1 : number < 0 ∨ 9 < number
  · obtain rfl : er = .no 1 := by rw [← he]; unfold pvvEr; rw [if_pos h1]
    clear he hne
    rcases h1 with h1 | h1
    · go_enter Tryd.func20, Tryd.ntmps20
      go_wp2
      go_ret2
      exact ⟨⟨_, rfl, rfl⟩, Below.refl _ _⟩
    · have h0 : ¬ number < 0 := by omega
      go_enter Tryd.func20, Tryd.ntmps20
      go_wp2
      go_ret2
      exact ⟨⟨_, rfl, rfl⟩, Below.refl _ _⟩
  · have h0 : ¬ number < 0 := by omega
    have h9 : ¬ 9 < number := by omega
    by_cases h2 : n = 16
    · have t1 : ((n : Int) != 16) = false := by rw [bne_eq_false_iff_eq]; omega
      have hb : er = bothEr p.data.toList pan.data.toList := by rw [← he]; unfold pvvEr; rw [if_neg h1, if_neg (by omega)]
      clear he h1 h2
      have hdef : bothEr p.data.toList pan.data.toList = match decEr p.data.toList 4 12 with | .ok => decEr pan.data.toList 13 19 | e => e := rfl
      rw [hdef] at hb
      clear hdef
      generalize decEr p.data.toList 4 12 = ep at *
      generalize decEr pan.data.toList 13 19 = ea at *
      cases ep with
      | no m =>
        obtain rfl : er = .no m := hb
        go_enter Tryd.func20, Tryd.ntmps20
        go_wp2_with fail
        refine (HP.out _).mono ?_
        rintro e w1 ⟨⟨v, rfl, hv⟩, hb1⟩
        obtain rfl : v = _ := hv
        go_wp2
        go_ret2
        exact ⟨⟨_, rfl, rfl⟩, hb1⟩
      | fa q m =>
        obtain rfl : er = .fa q m := hb
        go_enter Tryd.func20, Tryd.ntmps20
        go_wp2_with fail
        refine (HP.out _).mono ?_
        rintro e w1 ⟨⟨v, rfl, hv⟩, hb1⟩
        have hv' := hv
        obtain ⟨g, rfl, _⟩ := hv'
        go_wp2
        go_ret2
        exact ⟨⟨_, rfl, hv⟩, hb1⟩
      | ok =>
        obtain rfl : er = ea := hb
        cases er with
        | ok => exact absurd rfl hne
        | no m =>
          clear hne
          go_enter Tryd.func20, Tryd.ntmps20
          go_wp2_with fail
          refine (HP.out _).mono ?_
          rintro e w1 ⟨⟨v, rfl, hv⟩, hb1⟩
          obtain rfl : v = _ := hv
          go_wp2_with fail
          refine (HA.out _).mono ?_
          rintro e w2 ⟨⟨v, rfl, hv⟩, hb2⟩
          obtain rfl : v = _ := hv
          go_wp2
          go_ret2
          exact ⟨⟨_, rfl, rfl⟩, hb1.trans (hb2.mono hb1.size)⟩
        | fa q m =>
          clear hne
          go_enter Tryd.func20, Tryd.ntmps20
          go_wp2_with fail
          refine (HP.out _).mono ?_
          rintro e w1 ⟨⟨v, rfl, hv⟩, hb1⟩
          obtain rfl : v = _ := hv
          go_wp2_with fail
          refine (HA.out _).mono ?_
          rintro e w2 ⟨⟨v, rfl, hv⟩, hb2⟩
          have hv2 := hv.more hb1.size
          have hv' := hv
          obtain ⟨g, rfl, _⟩ := hv'
          clear hv
          go_wp2
          go_ret2
          exact ⟨⟨_, rfl, hv2⟩, hb1.trans (hb2.mono hb1.size)⟩
    · obtain rfl : er = .no 2 := by rw [← he]; unfold pvvEr; rw [if_neg h1, if_pos h2]
      have t1 : ((n : Int) != 16) = true := by rw [bne_iff_ne]; omega
      clear he hne h1 h2
      go_enter Tryd.func20, Tryd.ntmps20
      go_wp2
      go_ret2
      exact ⟨⟨_, rfl, rfl⟩, Below.refl _ _⟩

set_option maxHeartbeats 4000000 in
set_option maxRecDepth 100000 in
theorem pvvOf_ok (key : List Nat) (hkl : key.length = 16) (hkb : ∀ c ∈ key, c < 256) (n : Nat) (hn : n < 10) (pan p : ByteArray) (hok : bothEr p.data.toList pan.data.toList = .ok) (A : Option Addr) (cp : Nat) (w : World) (hA : At w A key) :
    Calls Tryd.prog 20 #[.slice A 16 cp, .int .i64 n, .string pan, .string p] w fun e w' => e = .returned (.tuple #[.string (str (pvvVal key n pan.data.toList p.data.toList)), .nilIface]) ∧ Below w.heap.size w w' := by
  obtain ⟨hp1, ha1⟩ := bothEr_ok hok
  obtain ⟨h13, h19, had⟩ := acc_ok pan ha1
  obtain ⟨h4, h12, hpd⟩ := pn_ok p hp1
  have hal : pan.data.toList.length = pan.size := by simp
  have hpl : p.data.toList.length = p.size := by simp
  have HP := Lib.hid (fun W => right_pin p (by omega) W)
  have HA := Lib.hid (fun W => account_any pan (by omega) W)
  rw [hp1] at HP
  rw [ha1] at HA
  have HI := Lib.hid (fun W => itoa_one n hn W)
  have hth := pvvText_hex pan.data.toList n p.data.toList hn had hpd
  have htl := pvvText_len pan.data.toList n p.data.toList (by omega) (by omega)
  have hcut : (pan.extract (pan.size - 12) (pan.size - 1) ++ str [hexd n]) ++ p.extract 0 4 = str (pvvText pan.data.toList n p.data.toList) := by
    have e1 : pan.extract (pan.size - 12) (pan.size - 1) = str ((pan.data.toList.drop (pan.size - 12)).take 11) := by
      conv => lhs; rw [← str_of pan, str_extract]
      congr 2
      rw [str_of]; omega
    have e2 : p.extract 0 4 = str (p.data.toList.take 4) := by
      conv => lhs; rw [← str_of p, str_extract]
      simp
    rw [e1, e2, str_add, str_add]
    unfold pvvText
    rw [hal]
  have hU : ∀ W, Calls Tryd.prog 27 #[.string (str (pvvText pan.data.toList n p.data.toList))] W fun e w' => (∃ v, e = .returned (.tuple #[v, .nilIface]) ∧ Own w' W.heap.size v (unhexL (pvvText pan.data.toList n p.data.toList))) ∧ Below W.heap.size W w' :=
    fun W => unhex_ok _ (by rw [str_size, htl]; decide) (by rw [str_list]; exact badAt_none hth) (by rw [str_size, htl]) W
  have HU := Lib.hid hU; clear hU
  have hul : (unhexL (pvvText pan.data.toList n p.data.toList)).length = 8 := by rw [unhexL_len, htl]
  have hult := unhexL_lt hth
  have hdef : pvvVal key n pan.data.toList p.data.toList = (pickL (hexL (triple16 (key.take 8) (key.drop 8) (unhexL (pvvText pan.data.toList n p.data.toList)) false))).take 4 := rfl
  rw [hdef]
  clear hdef
  generalize str (pvvText pan.data.toList n p.data.toList) = S at *
  generalize unhexL (pvvText pan.data.toList n p.data.toList) = U at *
  have HD := Lib.hid (fun g A cx W hC hA => doT_any g key hkl hkb (.pointer none) U hul hult A cx W hC hA)
  have HNW := Lib.hid (fun W hA => new_yes 2 16 (.inr rfl) key hkl rfl (by omega) A cp none W hA)
  have hvl := triple16_len (key.take 8) (key.drop 8) U false
  have hvlt := triple16_lt (key.take 8) (key.drop 8) U false
  generalize triple16 (key.take 8) (key.drop 8) U false = V at *
  have hhl := hexL_len V
  rw [hvl] at hhl
  have hhh := hexL_hex V hvlt
  have HH := Lib.hid (fun A cp W hA => hex_any V hvlt (by omega) A cp W hA)
  rw [hvl, show (⟨(hexL V).toArray⟩ : ByteArray) = str (hexL V) from rfl] at HH
  have hpe : pickEr (hexL V) 4 = .ok := by
    exact pickEr_hex _ 4 hhh (by omega)
  have HPK := Lib.hid (fun W => pick_any (str (hexL V)) (by rw [str_size]; omega) 4 W)
  rw [str_list, hpe] at HPK
  have hpv : pickV (hexL V) 4 = .string (str ((pickL (hexL V)).take 4)) := pickV_hex _ 4 hhh (by omega)
  rw [hpv] at HPK
  generalize str ((pickL (hexL V)).take 4) = R at *
  generalize str (hexL V) = HV at *
  clear hpv hpe hhh hhl hvlt hth htl
  have HVL := Lib.hid hvl; clear hvl
  have HUL := Lib.hid hul; clear hul hult hkl hkb hp1 ha1 hok had hpd
  have hAW : ∀ W, Below w.heap.size w W → At W A key := fun W hW => hA.below hW (Nat.le_refl _)
  have HAW := Lib.hid hAW; clear hAW hA
  have HCUT := Lib.hid hcut; clear hcut
  have s1 : (pan.extract (pan.size - 12) (pan.size - 1)).size ≤ 11 := by rw [ByteArray.size_extract]; omega
  have s2 : (p.extract 0 4).size ≤ 4 := by rw [ByteArray.size_extract]; omega
  have s3 : (str [hexd n]).size ≤ 1 := by rw [str_size]; exact Nat.le_refl _
  obtain ⟨I, hI⟩ : ∃ I, str [hexd n] = I := ⟨_, rfl⟩
  rw [hI] at HI HCUT s3
  clear hI hal hpl
  obtain ⟨X, hX⟩ : ∃ X, pan.extract (pan.size - 12) (pan.size - 1) = X := ⟨_, rfl⟩
  obtain ⟨P4, hP4⟩ : ∃ P4, p.extract 0 4 = P4 := ⟨_, rfl⟩
  rw [hX] at HCUT s1
  rw [hP4] at HCUT s2
  have HX := Lib.hid hX; clear hX
  have HP4 := Lib.hid hP4; clear hP4
  have s4 : (X ++ I).size ≤ 12 := by rw [ByteArray.size_append]; omega
  have b1 : ¬ 9223372036854775807 < X.size + I.size := by omega
  have b2 : ¬ 9223372036854775807 < (X ++ I).size + P4.size := by omega
  have w1 : IntKind.i64.wrap ((pan.size : Int) - 12) = (pan.size : Int) - 12 := IntWalk.i64_in _ (by omega)
  have w2 : IntKind.i64.wrap ((pan.size : Int) - 1) = (pan.size : Int) - 1 := IntWalk.i64_in _ (by omega)
  have e1 : ((pan.size : Int) - 12).toNat = pan.size - 12 := by omega
  have e2 : ((pan.size : Int) - 1).toNat = pan.size - 1 := by omega
  have W1 := Lib.hid w1; clear w1
  have W2 := Lib.hid w2; clear w2
  have E1 := Lib.hid e1; clear e1
  have E2 := Lib.hid e2; clear e2
  go_enter Tryd.func20, Tryd.ntmps20
  go_wp2_with fail
  refine (HP.out _).mono ?_
  rintro e w1 ⟨⟨v, rfl, hv⟩, hb1⟩
  obtain rfl : v = _ := hv
  go_wp2_with fail
  refine (HA.out _).mono ?_
  rintro e w2 ⟨⟨v, rfl, hv⟩, hb2⟩
  obtain rfl : v = _ := hv
  have hbel2 := hb1.trans (hb2.mono hb1.size)
  clear hb1 hb2
  go_wp2_with fail
  refine wp_region_tree (.q 0 (.q 1 (.q 2 (.q 3 (.q 4 (.q 5 (.q 6 (.q 7 (.q 8 (.q 11 (.q 12 (.e [9] fun _ => .q 10 (.q 13 (.e [14] fun _ => .q 15 (.q 16 (.q 17 (.q 18 (.q 19 (.done))))))))))))))))))) (fun W => Below w2.heap.size w2 W) rfl (by kernel_rfl) (fun _ _ d _ _ h => by cases d <;> exact h) ?_
  have hw : Below w2.heap.size w2 w2.drew := below_drewN (Below.refl _ _) 1
  iterate 3 (refine t_q rfl rfl hw _ (fun W hW => by (go_simp; rfl)) ?_; go_simp)
  refine t_q rfl rfl hw (.int .i64 ((pan.size : Int) - 12)) (fun W hW => by (go_simp; exact W1.out)) ?_
  go_simp
  iterate 2 (refine t_q rfl rfl hw _ (fun W hW => by (go_simp; rfl)) ?_; go_simp)
  refine t_q rfl rfl hw (.int .i64 ((pan.size : Int) - 1)) (fun W hW => by (go_simp; exact W2.out)) ?_
  go_simp
  refine t_q rfl rfl hw (.string X) (fun W hW => by (rw [← HX.out]; have e1 := E1.out; have e2 := E2.out; go_simp; rw [if_pos ⟨by omega, by omega⟩, if_pos (by omega)])) ?_
  go_simp
  iterate 2 (refine t_q rfl rfl hw _ (fun W hW => by (go_simp; rfl)) ?_; go_simp)
  refine t_q rfl rfl hw (.string P4) (fun W hW => by (rw [← HP4.out]; go_simp; intro h; omega)) ?_
  go_simp
  refine t_e rfl rfl fun K hK => ?_
  go_simp
  refine (HI.out _).mono ?_
  rintro e w3 ⟨rfl, rfl⟩
  refine hK _ _ hw ?_
  clear hK K
  go_simp
  refine t_q rfl rfl hw (.string (X ++ I)) (fun W hW => by (go_simp)) ?_
  go_simp
  refine t_q rfl rfl hw (.string S) (fun W hW => by (rw [← HCUT.out]; go_simp; omega)) ?_
  go_simp
  refine t_e rfl rfl fun K hK => ?_
  go_simp
  refine (HU.out _).mono ?_
  rintro e w4 ⟨⟨v, rfl, hv⟩, hb4⟩
  obtain ⟨gu, cu, rfl, hgu, hcu, hgul, hBU⟩ := hv.form (by intro h; have := HUL.out; rw [h] at this; cases this)
  rw [HUL.out] at hcu ⊢
  have hw4 := hw.trans (hb4.mono hw.size)
  refine hK _ _ hw4 ?_
  clear hK K hb4 hv
  go_simp
  iterate 5 (refine t_q rfl rfl hw4 _ (fun W hW => by (go_simp; rfl)) ?_; go_simp)
  refine t_done ?_
  have hbel4 := hbel2.trans (hw4.mono hbel2.size)
  clear hw hw4
  go_wp2_with fail
  refine (HNW.out _ (HAW.out _ hbel4)).mono ?_
  rintro e w5 ⟨⟨gc, rfl, hgc, hC5⟩, hb5⟩
  have hbel5 := hbel4.trans (hb5.mono hbel4.size)
  have hBU5 := hBU.below hb5 hgul
  have HC5 := Lib.hid hC5; clear hC5 hb5 hBU
  go_wp2_with fail
  refine (HD.out _ _ _ _ HC5.out (fun _ => ⟨_, _, rfl, hBU5⟩)).mono ?_
  rintro e w6 ⟨⟨gv, rfl, hgv, hBV⟩, hb6⟩
  have hbel6 := hbel5.trans (hb6.mono hbel5.size)
  go_wp2_with fail
  refine (HH.out _ _ _ (fun _ => ⟨_, _, rfl, Bs.of_blk hBV (fun j c hj => by rw [Nat.zero_add]; exact hj)⟩)).mono ?_
  rintro e w7 ⟨rfl, hb7⟩
  have hbel7 := hbel6.trans (hb7.mono hbel6.size)
  go_wp2_with fail
  refine (HPK.out _).mono ?_
  rintro e w8 ⟨⟨v, rfl, hv⟩, hb8⟩
  obtain rfl : v = _ := hv
  go_wp2
  go_ret2
  exact ⟨rfl, hbel7.trans (hb8.mono hbel7.size)⟩

theorem pvvOf_any (key : List Nat) (hkb : ∀ c ∈ key, c < 256) (A : Option Addr) (cp : Nat) (number : Int) (pan p : ByteArray) (hp : pan.size ≤ 140737488351232) (hd : p.size ≤ 140737488351232) (w : World) (hA : At w A key) :
    Calls Tryd.prog 20 #[.slice A key.length cp, .int .i64 number, .string pan, .string p] w fun e w' =>
      (∃ v, e = .returned (.tuple #[.string (str (pvvStr key number pan.data.toList p.data.toList)), v]) ∧ ErIs w' w.heap.size v (pvvEr key.length number pan.data.toList p.data.toList)) ∧ Below w.heap.size w w' := by
  by_cases hok : pvvEr key.length number pan.data.toList p.data.toList = .ok
  · have h := hok
    unfold pvvEr at h
    split at h
    · cases h
    · rename_i h1
      split at h
      · cases h
      · rename_i h2
        have hkl : key.length = 16 := by omega
        rw [pvvStr_ok hok, hok, hkl]
        obtain ⟨n, rfl⟩ : ∃ n : Nat, number = n := ⟨number.toNat, by omega⟩
        refine (pvvOf_ok key hkl hkb n (by omega) pan p h A cp w hA).mono ?_
        rintro e w' ⟨rfl, hb⟩
        exact ⟨⟨_, rfl, rfl⟩, hb⟩
  · rw [pvvStr_bad hok]
    exact pvvOf_bad A key.length cp number pan p hp hd _ rfl hok w
end Go.Proofs.YtnkgglmfoimbhaaDoor
