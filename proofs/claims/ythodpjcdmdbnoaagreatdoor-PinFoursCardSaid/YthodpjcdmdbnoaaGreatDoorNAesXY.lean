/- The contracts of aes.Encrypt, aes.Decrypt, of a key of 16, 24 or 32 bytes. The contracts of Cipher.wide, Cipher.Do, of AES. -/
import Derived.Test.YthodpjcdmdbnoaaGreatDoorNAesWs
/- The contracts of aes.Encrypt, aes.Decrypt, of a key of 16, 24 or 32 bytes. -/
namespace Go.Proofs.YthodpjcdmdbnoaaGreatDoor
open Go Go.RowKit Pr

/-- the contract of aes.Words -/
theorem words_any (key : List Nat) (kl nr : Nat) (hk : AesK kl nr) (hl : key.length = kl) (hb : Byt key) (A : Option Addr) (cp : Nat) (w : World) (hA : At w A key) :
    Calls Tryz.prog 107 #[.slice A kl cp] w fun e w' => (∃ v, e = .returned (.tuple #[v, .nilIface]) ∧ Own w' w.heap.size v (wordsG key)) ∧ Below w.heap.size w w' := by
 rcases hk with ⟨rfl, rfl⟩ | ⟨rfl, rfl⟩ | ⟨rfl, rfl⟩
 ·
  exact words16 key hl hb A cp w hA
 ·
  exact words24 key hl hb A cp w hA
 ·
  exact words32 key hl hb A cp w hA
theorem box_is : BoxIs 114 boxG := fun a w h => gfbox_any a h w
theorem unbox_is : BoxIs 113 unboxG := fun a w h => gfunbox_any a h w
/-- the block, the words and the result's cell while a block is (de)ciphered -/
def AesSt (w : World) (gw : Nat) (ws : List Nat) (W : World) (l : List Nat) : Prop :=
 Blk W w.heap.size 113 (byteCells l) ∧ Bs W gw 0 ws ∧ (∃ z : Array Value, z.size = 16 ∧ Blk W (w.heap.size + 1) 113 z) ∧ Below w.heap.size w W
theorem AesSt.next {w W W' : World} {gw : Nat} {ws l l' : List Nat} (hs : AesSt w gw ws W l) (hk : Keep w.heap.size W W') (hB : Blk W' w.heap.size 113 (byteCells l')) (hg : w.heap.size + 2 ≤ gw) : AesSt w gw ws W' l' := by
 obtain ⟨_, h2, ⟨z, hz, h3⟩, h4⟩ := hs
 exact ⟨hB, h2.keep hk (by omega), ⟨z, hz, h3.keep hk (by omega)⟩, hk.below h4 h4.size (Nat.le_refl _)⟩

set_option maxHeartbeats 4000000 in
set_option maxRecDepth 100000 in
theorem encrypt_any (key b : List Nat) (kl nr : Nat) (hk : AesK kl nr) (hl : key.length = kl) (hb : Byt key) (hbl : b.length = 16) (hbb : Byt b) (A : Option Addr) (cp : Nat) (w : World) (hA : At w A key) :
    Calls Tryz.prog 84 #[.slice A kl cp, .agg (byteCells b)] w fun e w' => e = .returned (.tuple #[.agg (byteCells (encG b (wordsG key) nr)), .nilIface]) ∧ Below w.heap.size w w' := by
 have HW := Lib.hid (fun W hA => words_any key kl nr hk hl hb A cp W hA)
 obtain ⟨wl, hwl2⟩ : ∃ wl, wl = 16 * nr + 16 := ⟨_, rfl⟩
 have hwl := wordsG_len hb hk hl
 rw [← hwl2] at hwl
 have hw1 : 16 * nr + 16 ≤ wl := by omega
 have hw2 : wl ≤ 16 * nr + 16 := by omega
 clear hwl2
 have hnr := hk.nr
 have h10 : 10 ≤ nr := by omega
 have h14 : nr ≤ 14 := by omega
 clear hnr
 have hwb := wordsG_byt hb
 have hsz := Lib.hid (size_byteCells b)
 generalize wordsG key = ws at *
 have HWL := Lib.hid hwl; clear hwl
 have HWB := Lib.hid hwb; clear hwb
 have HEO := Lib.hid (fun r => encTo_ok hbb HWB.out nr r)
 have HR := Lib.hid (fun A cp W => aesRounds_any kl nr hk A cp W)
 have HBL := Lib.hid hbl; clear hbl
 have HBB := Lib.hid hbb; clear hbb
 have hA1 : ∀ o1 o2, At ((w.alloc o1).alloc o2) A key := fun o1 o2 hne => by
  obtain ⟨b, o, e, hB⟩ := hA hne
  exact ⟨b, o, e, (hB.alloc _).alloc _⟩
 have HA1 := Lib.hid hA1; clear hA1 hA hl hb
 obtain ⟨cb, hcb⟩ : ∃ cb, byteCells b = cb := ⟨_, rfl⟩
 rw [hcb] at hsz ⊢
 have HCB := Lib.hid hcb; clear hcb
 go_enter Tryz.func84, Tryz.ntmps84
 go_wp2_with fail
 refine (HW.out _ (HA1.out _ _)).mono ?_
 rintro e w1 ⟨⟨v, rfl, hv⟩, hb1⟩
 obtain ⟨gw, cw, rfl, hgw, hcw, hgwl, hBw⟩ := hv.form (by intro h; have := HWL.out; rw [h] at this; simp at this; omega)
 rw [HWL.out] at hcw ⊢
 have hB1 : Blk w1 w.heap.size 113 (byteCells b) := by
  rw [HCB.out]
  exact ((Blk.new w _ _).alloc _).below hb1 (by simp; omega)
 have hZ1 : ∃ z : Array Value, z.size = 16 ∧ Blk w1 (w.heap.size + 1) 113 z := ⟨_, by rfl, Blk.below (Blk.new2 w _ _ _) hb1 (by simp)⟩
 have hbel1 : Below w.heap.size w w1 := (((Below.refl _ _).alloc (Nat.le_refl _) _).alloc (by simp) _).trans (hb1.mono (by simp; omega))
 have hgw2 : w.heap.size + 2 ≤ gw := by simpa using hgw
 clear hv hb1 hgw
 go_wp2_with fail
 refine (HR.out _ _ _).mono ?_
 rintro e w2 ⟨rfl, rfl⟩
 have s1 : AesSt w gw ws w1 b := ⟨hB1, hBw, hZ1, hbel1⟩
 clear hB1 hBw hZ1 hbel1
 go_wp2_with fail
 refine (with_any w.heap.size b ws 0 wl cw HBL.out HBB.out HWB.out (by omega) HWL.out (by omega) gw 0 w1 s1.1 s1.2.1 (by omega)).mono ?_
 rintro e w2 ⟨rfl, hB2, hk2⟩
 have s2 : AesSt w gw ws w2 (encTo b ws nr 0) := s1.next hk2 hB2 hgw2
 clear s1 hB2 hk2
 go_wp2
 go_loopw [9] (fun i wr => ∃ q : Nat, q ≤ nr ∧ i = .int .i64 (q + 1 : Nat) ∧ AesSt w gw ws wr (encTo b ws nr q)) (fun i _ => nr + 1 - (intOf i).toNat)
 case atStart => exact ⟨0, by omega, rfl, s2⟩
 case round =>
  obtain ⟨q, hq, rfl, s3⟩ := hrel
  clear s2
  obtain ⟨hel, heb⟩ := HEO.out q
  by_cases hlt : q < nr
  ·
   have hen : encTo b ws nr (q + 1) = withG (if q + 1 < nr then columnsG (rowsG ((encTo b ws nr q).map boxG) 1) mE else rowsG ((encTo b ws nr q).map boxG) 1) ws (q + 1) := rfl
   generalize encTo b ws nr q = E at *
   have hml : (E.map boxG).length = 16 := by rw [List.length_map, hel]
   have hmb := box_byt heb
   have hrl := rowsG_len (E.map boxG) 1
   have hrb := rowsG_byt hmb 1
   go_wp2_with fail
   refine (boxes_any 114 boxG box_is (Or.inl rfl) w.heap.size E hel heb wr s3.1).mono ?_
   rintro e w3 ⟨rfl, hB3, hk3⟩
   have s4 := s3.next hk3 hB3 hgw2
   clear s3 hB3 hk3
   go_wp2_with fail
   refine (rows_any w.heap.size (E.map boxG) 1 (Or.inl rfl) hml w3 s4.1).mono ?_
   rintro e w4 ⟨rfl, hB4, hk4⟩
   have s5 := s4.next hk4 hB4 hgw2
   clear s4 hB4 hk4
   generalize rowsG (E.map boxG) 1 = R at *
   have HEN := Lib.hid hen; clear hen hml hmb hel heb
   by_cases hl9 : q + 1 < nr
   ·
    have hen := HEN.out
    rw [if_pos hl9] at hen
    have HEN2 := Lib.hid hen; clear hen HEN
    go_wp2_with fail
    refine (columns_any w.heap.size R mE hrl hrb rfl mE_byt w4 s5.1).mono ?_
    rintro e w5 ⟨rfl, hB5, hk5⟩
    have s6 := s5.next hk5 hB5 hgw2
    clear s5 hB5 hk5
    go_wp2_with fail
    refine (with_any w.heap.size (columnsG R mE) ws (q + 1) wl cw (columnsG_len _ _) (columnsG_byt mE_byt) HWB.out (by omega) HWL.out (by omega) gw 0 w5 s6.1 s6.2.1 (by omega)).mono ?_
    rintro e w6 ⟨rfl, hB6, hk6⟩
    rw [← HEN2.out] at hB6
    have s7 := s6.next hk6 hB6 hgw2
    clear s6 hB6 hk6
    go_wp2
    go_roundw
    case rel => exact ⟨q + 1, by omega, by go_num, s7⟩
    case measure => simp [intOf]; omega
   ·
    have hen := HEN.out
    rw [if_neg hl9] at hen
    have HEN2 := Lib.hid hen; clear hen HEN
    go_wp2_with fail
    refine (with_any w.heap.size R ws (q + 1) wl cw hrl hrb HWB.out (by omega) HWL.out (by omega) gw 0 w4 s5.1 s5.2.1 (by omega)).mono ?_
    rintro e w6 ⟨rfl, hB6, hk6⟩
    rw [← HEN2.out] at hB6
    have s7 := s5.next hk6 hB6 hgw2
    clear s5 hB6 hk6
    go_wp2
    go_roundw
    case rel => exact ⟨q + 1, by omega, by go_num, s7⟩
    case measure => simp [intOf]; omega
  ·
   obtain rfl : nr = q := by omega
   have hfin : encTo b ws nr nr = encG b ws nr := rfl
   rw [hfin] at s3 hel
   obtain ⟨E, hE⟩ : ∃ E, encG b ws nr = E := ⟨_, rfl⟩
   rw [hE] at s3 hel
   have HE := Lib.hid hE; clear hE hfin heb
   obtain ⟨hB3, -, ⟨z, hz, hZ3⟩, hbel3⟩ := s3
   have hez := Lib.hid (size_byteCells E)
   have HEL := Lib.hid hel; clear hel
   go_wp2_with (first
    | (refine wpList_load_row rfl 113 (.tmp 3) rfl w.heap.size rfl 113 _ (0,0) _ hB3 Tryz.underlying113 rfl (by rw [info_16u8, hez.out, HEL.out]) ?_)
    | (refine wpList_store_all rfl 113 (.tmp 4) (.tmp 38) rfl (w.heap.size + 1) (byteCells E) rfl rfl 113 _ hZ3 (by rw [info_16u8, hez.out, HEL.out]) (by rw [hez.out, HEL.out, hz]) (bytes_one _) ?_; intro w9 hB9 hO9))
   refine bodyPost_ret (v := .tuple #[.agg (byteCells E), .nilIface]) (results_agg_tmp rfl _ _ (w.heap.size + 1) 113 (byteCells E) _ (by rfl) hB9 Tryz.underlying113 rfl (by rw [info_16u8, hez.out, HEL.out]) _ (by rfl)) rfl ⟨by rw [HE.out], ?_⟩
   exact hO9.below hbel3 (by omega)
theorem decTo_ok {b w : List Nat} (hl : b.length = 16) (hb : Byt b) (hw : Byt w) (n : Nat) : ∀ k, (decTo b w n k).length = 16 ∧ Byt (decTo b w n k)
 | 0 => ⟨hl, hb⟩
 | k + 1 => by
  have ih := decTo_ok hl hb hw n k
  unfold decTo
  refine ⟨by rw [List.length_map, rowsG_len], unbox_byt (rowsG_byt ?_ 3)⟩
  split
  ·
   exact columnsG_byt mD_byt
  ·
   exact withG_byt ih.2 hw _

set_option maxHeartbeats 4000000 in
set_option maxRecDepth 100000 in
theorem decrypt_any (key b : List Nat) (kl nr : Nat) (hk : AesK kl nr) (hl : key.length = kl) (hb : Byt key) (hbl : b.length = 16) (hbb : Byt b) (A : Option Addr) (cp : Nat) (w : World) (hA : At w A key) :
    Calls Tryz.prog 83 #[.slice A kl cp, .agg (byteCells b)] w fun e w' => e = .returned (.tuple #[.agg (byteCells (decG b (wordsG key) nr)), .nilIface]) ∧ Below w.heap.size w w' := by
 have HW := Lib.hid (fun W hA => words_any key kl nr hk hl hb A cp W hA)
 obtain ⟨wl, hwl2⟩ : ∃ wl, wl = 16 * nr + 16 := ⟨_, rfl⟩
 have hwl := wordsG_len hb hk hl
 rw [← hwl2] at hwl
 have hw1 : 16 * nr + 16 ≤ wl := by omega
 have hw2 : wl ≤ 16 * nr + 16 := by omega
 clear hwl2
 have hnr := hk.nr
 have h10 : 10 ≤ nr := by omega
 have h14 : nr ≤ 14 := by omega
 clear hnr
 have hwb := wordsG_byt hb
 have hsz := Lib.hid (size_byteCells b)
 generalize wordsG key = ws at *
 have HWL := Lib.hid hwl; clear hwl
 have HWB := Lib.hid hwb; clear hwb
 have HEO := Lib.hid (fun r => decTo_ok hbl hbb HWB.out nr r)
 have HR := Lib.hid (fun A cp W => aesRounds_any kl nr hk A cp W)
 have HBL := Lib.hid hbl; clear hbl
 have HBB := Lib.hid hbb; clear hbb
 have hA1 : ∀ o1 o2, At ((w.alloc o1).alloc o2) A key := fun o1 o2 hne => by
  obtain ⟨b, o, e, hB⟩ := hA hne
  exact ⟨b, o, e, (hB.alloc _).alloc _⟩
 have HA1 := Lib.hid hA1; clear hA1 hA hl hb
 obtain ⟨cb, hcb⟩ : ∃ cb, byteCells b = cb := ⟨_, rfl⟩
 rw [hcb] at hsz ⊢
 have HCB := Lib.hid hcb; clear hcb
 go_enter Tryz.func83, Tryz.ntmps83
 go_wp2_with fail
 refine (HW.out _ (HA1.out _ _)).mono ?_
 rintro e w1 ⟨⟨v, rfl, hv⟩, hb1⟩
 obtain ⟨gw, cw, rfl, hgw, hcw, hgwl, hBw⟩ := hv.form (by intro h; have := HWL.out; rw [h] at this; simp at this; omega)
 rw [HWL.out] at hcw ⊢
 have hB1 : Blk w1 w.heap.size 113 (byteCells b) := by
  rw [HCB.out]
  exact ((Blk.new w _ _).alloc _).below hb1 (by simp; omega)
 have hZ1 : ∃ z : Array Value, z.size = 16 ∧ Blk w1 (w.heap.size + 1) 113 z := ⟨_, by rfl, Blk.below (Blk.new2 w _ _ _) hb1 (by simp)⟩
 have hbel1 : Below w.heap.size w w1 := (((Below.refl _ _).alloc (Nat.le_refl _) _).alloc (by simp) _).trans (hb1.mono (by simp; omega))
 have hgw2 : w.heap.size + 2 ≤ gw := by simpa using hgw
 clear hv hb1 hgw
 go_wp2_with fail
 refine (HR.out _ _ _).mono ?_
 rintro e w2 ⟨rfl, rfl⟩
 have s1 : AesSt w gw ws w1 b := ⟨hB1, hBw, hZ1, hbel1⟩
 clear hB1 hBw hZ1 hbel1
 have s2 : AesSt w gw ws w1 (decTo b ws nr 0) := s1
 clear s1
 go_wp2
 go_loopw [9] (fun i wr => ∃ k r : Nat, r + k = nr ∧ i = .int .i64 r ∧ AesSt w gw ws wr (decTo b ws nr k)) (fun i _ => (intOf i).toNat)
 case atStart => exact ⟨0, nr, by omega, rfl, s2⟩
 case round =>
  obtain ⟨k, r, hkr, rfl, s3⟩ := hrel
  clear s2
  obtain ⟨hel, heb⟩ := HEO.out k
  by_cases hlt : 1 ≤ r
  ·
   have hen : decTo b ws nr (k + 1) = (rowsG (if nr - k < nr then columnsG (withG (decTo b ws nr k) ws (nr - k)) mD else withG (decTo b ws nr k) ws (nr - k)) 3).map unboxG := rfl
   rw [show nr - k = r by omega] at hen
   generalize decTo b ws nr k = E at *
   have e1 : IntKind.i64.wrap ((r : Int) - 1) = ((r - 1 : Nat) : Int) := by rw [IntWalk.i64_in _ (by omega)]; omega
   have hrI : (1 : Int) ≤ (r : Int) := by omega
   go_wp2_with fail
   refine (with_any w.heap.size E ws r wl cw hel heb HWB.out (by omega) HWL.out (by omega) gw 0 wr s3.1 s3.2.1 (by omega)).mono ?_
   rintro e w3 ⟨rfl, hB3, hk3⟩
   have s4 := s3.next hk3 hB3 hgw2
   have hwl := withG_len E ws r
   have hwb := withG_byt heb HWB.out r
   clear s3 hB3 hk3
   generalize withG E ws r = F at *
   have HEN := Lib.hid hen; clear hen hel heb
   by_cases hl9 : r < nr
   ·
    have hen := HEN.out
    rw [if_pos hl9] at hen
    have HEN2 := Lib.hid hen; clear hen HEN
    go_wp2_with fail
    refine (columns_any w.heap.size F mD hwl hwb rfl mD_byt w3 s4.1).mono ?_
    rintro e w5 ⟨rfl, hB5, hk5⟩
    have s5 := s4.next hk5 hB5 hgw2
    clear s4 hB5 hk5
    go_wp2_with fail
    refine (rows_any w.heap.size (columnsG F mD) 3 (Or.inr rfl) (columnsG_len _ _) w5 s5.1).mono ?_
    rintro e w4 ⟨rfl, hB4, hk4⟩
    have s6 := s5.next hk4 hB4 hgw2
    clear s5 hB4 hk4
    go_wp2_with fail
    refine (boxes_any 113 unboxG unbox_is (Or.inr rfl) w.heap.size _ (rowsG_len _ _) (rowsG_byt (columnsG_byt mD_byt) 3) w4 s6.1).mono ?_
    rintro e w6 ⟨rfl, hB6, hk6⟩
    rw [← HEN2.out] at hB6
    have s7 := s6.next hk6 hB6 hgw2
    clear s6 hB6 hk6
    go_wp2
    go_roundw
    case rel => exact ⟨k + 1, r - 1, by omega, by go_num, s7⟩
    case measure => simp [intOf]; omega
   ·
    have hen := HEN.out
    rw [if_neg hl9] at hen
    have HEN2 := Lib.hid hen; clear hen HEN
    go_wp2_with fail
    refine (rows_any w.heap.size F 3 (Or.inr rfl) hwl w3 s4.1).mono ?_
    rintro e w4 ⟨rfl, hB4, hk4⟩
    have s6 := s4.next hk4 hB4 hgw2
    clear s4 hB4 hk4
    go_wp2_with fail
    refine (boxes_any 113 unboxG unbox_is (Or.inr rfl) w.heap.size _ (rowsG_len _ _) (rowsG_byt hwb 3) w4 s6.1).mono ?_
    rintro e w6 ⟨rfl, hB6, hk6⟩
    rw [← HEN2.out] at hB6
    have s7 := s6.next hk6 hB6 hgw2
    clear s6 hB6 hk6
    go_wp2
    go_roundw
    case rel => exact ⟨k + 1, r - 1, by omega, by go_num, s7⟩
    case measure => simp [intOf]; omega
  ·
   obtain rfl : r = 0 := by omega
   obtain rfl : nr = k := by omega
   have hfin : decG b ws nr = withG (decTo b ws nr nr) ws 0 := rfl
   go_wp2_with fail
   refine (with_any w.heap.size _ ws 0 wl cw hel heb HWB.out (by omega) HWL.out (by omega) gw 0 wr s3.1 s3.2.1 (by omega)).mono ?_
   rintro e w3 ⟨rfl, hB3, hk3⟩
   rw [← hfin] at hB3
   have s4 := s3.next hk3 hB3 hgw2
   have hel2 := decG_len b ws nr
   obtain ⟨E, hE⟩ : ∃ E, decG b ws nr = E := ⟨_, rfl⟩
   rw [hE] at s4 hel2
   have HE := Lib.hid hE; clear hE hfin heb hel s3 hB3 hk3
   obtain ⟨hB3, -, ⟨z, hz, hZ3⟩, hbel3⟩ := s4
   have hez := Lib.hid (size_byteCells E)
   have HEL := Lib.hid hel2; clear hel2
   go_wp2_with (first
    | (refine wpList_load_row rfl 113 (.tmp 3) rfl w.heap.size rfl 113 _ (0,0) _ hB3 Tryz.underlying113 rfl (by rw [info_16u8, hez.out, HEL.out]) ?_)
    | (refine wpList_store_all rfl 113 (.tmp 4) (.tmp 38) rfl (w.heap.size + 1) (byteCells E) rfl rfl 113 _ hZ3 (by rw [info_16u8, hez.out, HEL.out]) (by rw [hez.out, HEL.out, hz]) (bytes_one _) ?_; intro w9 hB9 hO9))
   refine bodyPost_ret (v := .tuple #[.agg (byteCells E), .nilIface]) (results_agg_tmp rfl _ _ (w.heap.size + 1) 113 (byteCells E) _ (by rfl) hB9 Tryz.underlying113 rfl (by rw [info_16u8, hez.out, HEL.out]) _ (by rfl)) rfl ⟨by rw [HE.out], ?_⟩
   exact hO9.below hbel3 (by omega)
end Go.Proofs.YthodpjcdmdbnoaaGreatDoor

/- The contracts of Cipher.wide, Cipher.Do, of AES. -/
namespace Go.Proofs.YthodpjcdmdbnoaaGreatDoor
open Go Go.RowKit Pr

def aesN (key x : List Nat) (back : Bool) : List Nat := if back then decG x (wordsG key) (key.length / 4 + 6) else encG x (wordsG key) (key.length / 4 + 6)
theorem aesN_len (key x : List Nat) (back : Bool) : (aesN key x back).length = 16 := by
 unfold aesN
 split
 ·
  exact decG_len _ _ _
 ·
  exact encG_len _ _ _

theorem aes_calls (key x : List Nat) (kl nr : Nat) (hk : AesK kl nr) (hkl : key.length = kl) (hkb : Byt key) (hx : x.length = 16) (gx : Byt x) (A : Option Addr) (cp : Nat) (W : World) (hA : At W A key) :
    (Calls Tryz.prog 83 #[.slice A kl cp, .agg (byteCells x)] W fun e w' => e = .returned (.tuple #[.agg (byteCells (aesN key x true)), .nilIface]) ∧ Below W.heap.size W w') ∧
    Calls Tryz.prog 84 #[.slice A kl cp, .agg (byteCells x)] W fun e w' => e = .returned (.tuple #[.agg (byteCells (aesN key x false)), .nilIface]) ∧ Below W.heap.size W w' :=
by
 have h := hk.nr
 have e1 : aesN key x true = decG x (wordsG key) nr := by unfold aesN; rw [if_pos rfl, hkl, ← h.1]
 have e2 : aesN key x false = encG x (wordsG key) nr := by unfold aesN; rw [if_neg (by decide), hkl, ← h.1]
 rw [e1, e2]
 exact ⟨decrypt_any key x kl nr hk hkl hkb hx gx A cp W hA, encrypt_any key x kl nr hk hkl hkb hx gx A cp W hA⟩

set_option maxHeartbeats 4000000 in
set_option maxRecDepth 100000 in
theorem wide_any (g : Nat) (key : List Nat) (kl nr : Nat) (hk : AesK kl nr) (hkl : key.length = kl) (hkb : Byt key) (bk : Value) (x : List Nat) (hx : x.length = 16) (gx : Byt x) (back : Bool) (w : World) (hC : CipherAt w g 1 key bk) :
    Calls Tryz.prog 59 #[.pointer (some ⟨g, 0, none⟩), .agg (byteCells x), .bool back] w fun e w' => e = .returned (.tuple #[.agg (byteCells (aesN key x back)), .nilIface]) ∧ Below w.heap.size w w' := by
 obtain ⟨gk, cp, hB, hcp, hK, hgk⟩ := hC
 have hgl := hB.lt
 have c0 : ∀ o1 o2, ((w.alloc o1).alloc o2).cell? ⟨g, 0, none⟩ = some (.int .i64 1) := fun o1 o2 => ((hB.alloc o1).alloc o2).cell 0
 have c1 : ∀ W, Below w.heap.size w W → W.cell? ⟨g, 1, none⟩ = some (.slice (some ⟨gk, 0, none⟩) kl cp) := fun W hW => by
  have := (hB.below hW hgl).cell 1
  rw [hkl] at this
  exact this
 have hKA : ∀ W, Below w.heap.size w W → At W (some ⟨gk, 0, none⟩) key := fun W hW _ => ⟨_, _, rfl, hK.below hW hgk⟩
 have HC := Lib.hid (fun W hA => aes_calls key x kl nr hk hkl hkb hx gx (some ⟨gk, 0, none⟩) cp W hA)
 have hvl := aesN_len key x
 have C1 := Lib.hid c1; clear c1
 have KA := Lib.hid hKA; clear hKA
 have hsz := Lib.hid (size_byteCells x)
 have HXL := Lib.hid hx; clear hx gx hkl hkb hB hK
 obtain ⟨cx, hcx⟩ : ∃ cx, byteCells x = cx := ⟨_, rfl⟩
 have HCX := Lib.hid hcx
 have hbx : ∀ W, Blk W w.heap.size 113 cx → Bs W w.heap.size 0 x := fun W hW => by
  rw [← HCX.out] at hW
  exact Bs.of_blk hW (fun j c hj => by rw [Nat.zero_add]; exact hj)
 have HBX := Lib.hid hbx; clear hbx
 cases back with
 | true =>
  have hvl := hvl true
  generalize aesN key x true = V at *
  have HVL := Lib.hid hvl; clear hvl
  rw [hcx]
  clear hcx
  go_enter Tryz.func59, Tryz.ntmps59
  have c00 := c0 (.cells cx 113) (.cells #[Value.int IntKind.u8 0, Value.int IntKind.u8 0, Value.int IntKind.u8 0, Value.int IntKind.u8 0, Value.int IntKind.u8 0, Value.int IntKind.u8 0, Value.int IntKind.u8 0, Value.int IntKind.u8 0, Value.int IntKind.u8 0, Value.int IntKind.u8 0, Value.int IntKind.u8 0, Value.int IntKind.u8 0, Value.int IntKind.u8 0, Value.int IntKind.u8 0, Value.int IntKind.u8 0, Value.int IntKind.u8 0] 113)
  have hz := Blk.new2 w (.cells cx 113) 113 #[Value.int IntKind.u8 0, Value.int IntKind.u8 0, Value.int IntKind.u8 0, Value.int IntKind.u8 0, Value.int IntKind.u8 0, Value.int IntKind.u8 0, Value.int IntKind.u8 0, Value.int IntKind.u8 0, Value.int IntKind.u8 0, Value.int IntKind.u8 0, Value.int IntKind.u8 0, Value.int IntKind.u8 0, Value.int IntKind.u8 0, Value.int IntKind.u8 0, Value.int IntKind.u8 0, Value.int IntKind.u8 0]
  have hxw := (Blk.new w 113 cx).alloc (.cells #[Value.int IntKind.u8 0, Value.int IntKind.u8 0, Value.int IntKind.u8 0, Value.int IntKind.u8 0, Value.int IntKind.u8 0, Value.int IntKind.u8 0, Value.int IntKind.u8 0, Value.int IntKind.u8 0, Value.int IntKind.u8 0, Value.int IntKind.u8 0, Value.int IntKind.u8 0, Value.int IntKind.u8 0, Value.int IntKind.u8 0, Value.int IntKind.u8 0, Value.int IntKind.u8 0, Value.int IntKind.u8 0] 113)
  have hbel := ((Below.refl w.heap.size w).alloc (Nat.le_refl _) (.cells cx 113)).alloc (by simp) (.cells #[Value.int IntKind.u8 0, Value.int IntKind.u8 0, Value.int IntKind.u8 0, Value.int IntKind.u8 0, Value.int IntKind.u8 0, Value.int IntKind.u8 0, Value.int IntKind.u8 0, Value.int IntKind.u8 0, Value.int IntKind.u8 0, Value.int IntKind.u8 0, Value.int IntKind.u8 0, Value.int IntKind.u8 0, Value.int IntKind.u8 0, Value.int IntKind.u8 0, Value.int IntKind.u8 0, Value.int IntKind.u8 0] 113)
  go_wp2_with fail
  generalize hw1 : (w.alloc (.cells cx 113)).alloc (.cells #[Value.int IntKind.u8 0, Value.int IntKind.u8 0, Value.int IntKind.u8 0, Value.int IntKind.u8 0, Value.int IntKind.u8 0, Value.int IntKind.u8 0, Value.int IntKind.u8 0, Value.int IntKind.u8 0, Value.int IntKind.u8 0, Value.int IntKind.u8 0, Value.int IntKind.u8 0, Value.int IntKind.u8 0, Value.int IntKind.u8 0, Value.int IntKind.u8 0, Value.int IntKind.u8 0, Value.int IntKind.u8 0] 113) = w1 at *
  obtain ⟨Z, hZ⟩ : ∃ Z : Array Value, Z = #[Value.int IntKind.u8 0, Value.int IntKind.u8 0, Value.int IntKind.u8 0, Value.int IntKind.u8 0, Value.int IntKind.u8 0, Value.int IntKind.u8 0, Value.int IntKind.u8 0, Value.int IntKind.u8 0, Value.int IntKind.u8 0, Value.int IntKind.u8 0, Value.int IntKind.u8 0, Value.int IntKind.u8 0, Value.int IntKind.u8 0, Value.int IntKind.u8 0, Value.int IntKind.u8 0, Value.int IntKind.u8 0] := ⟨_, rfl⟩
  rw [← hZ] at hz
  have hZs : Z.size = 16 := by rw [hZ]; rfl
  clear hZ hw1 c00 c0
  refine wp_region_tree (.q 0 (.q 1 (.q 2 (.q 3 (.q 4 (.e [5] fun _ => .q 6 (.q 7 (.e [8] fun _ => .q 9 (.done)))))))))
   (fun W => Below w.heap.size w W ∧ Blk W w.heap.size 113 cx) rfl (by kernel_rfl) (fun _ _ d _ _ h => by cases d <;> exact h) ?_
  change wpT _ _ _ _ _ _ w1.drew
  have hS : Below w.heap.size w w1.drew ∧ Blk w1.drew w.heap.size 113 cx := ⟨below_drewN hbel 1, hxw⟩
  have hz1 : Blk w1.drew (w.heap.size + 1) 113 Z := hz
  clear hbel hxw hz
  generalize w1.drew = w2 at *
  iterate 3 (refine t_q rfl rfl hS _ (fun W hW => by (go_simp; rfl)) ?_; go_simp)
  refine t_q rfl rfl hS (.slice (some ⟨gk, 0, none⟩) kl cp) (fun W hW => by (have hc := C1.out W hW.1; go_simp)) ?_
  go_simp
  refine t_load_bs rfl rfl 113 (.tmp 4) rfl w.heap.size 0 rfl x hS (fun W hW => HBX.out W hW.2) _ Tryz.underlying113 rfl (by rw [info_16u8, HXL.out]) ?_
  go_simp
  refine t_e rfl rfl fun K hK => ?_
  go_simp
  refine ((HC.out _ (KA.out _ hS.1)).1).mono ?_
  rintro e w3 ⟨rfl, hb3⟩
  have hS3 : Below w.heap.size w w3 ∧ Blk w3 w.heap.size 113 cx := ⟨hS.1.trans (hb3.mono hS.1.size), hS.2.below hb3 hS.2.lt⟩
  have hz3 := hz1.below hb3 hz1.lt
  refine hK _ _ hS3 ?_
  clear hK K hb3 hz1 hS
  go_simp
  iterate 2 (refine t_q rfl rfl hS3 _ (fun W hW => by (go_simp; rfl)) ?_; go_simp)
  refine t_e rfl rfl fun K hK => ?_
  refine op_store_row 113 (.tmp 6) (.tmp 36) rfl (w.heap.size + 1) (byteCells V) rfl rfl 113 _ hz3 (by rw [info_16u8, size_byteCells, HVL.out]) (by rw [size_byteCells, HVL.out, hZs]) (bytes_one _) fun w5 hB5 hO5 => ?_
  have hS5 : Below w.heap.size w w5 ∧ Blk w5 w.heap.size 113 cx := ⟨hO5.below hS3.1 (by omega), hS3.2.only hO5 (by omega)⟩
  refine hK _ _ hS5 ?_
  clear hK K hO5 hS3 hz3
  go_simp
  refine t_q rfl rfl hS5 _ (fun W hW => by (go_simp; rfl)) ?_
  go_simp
  refine t_done ?_
  go_wp2
  refine bodyPost_ret (v := .tuple #[.agg (byteCells V), .nilIface]) (results_agg_tmp rfl _ _ (w.heap.size + 1) 113 (byteCells V) _ (by rfl) hB5 Tryz.underlying113 rfl (by rw [info_16u8, size_byteCells, HVL.out]) _ (by rfl)) rfl ⟨rfl, hS5.1⟩
 | false =>
  have hvl := hvl false
  generalize aesN key x false = V at *
  have HVL := Lib.hid hvl; clear hvl
  rw [hcx]
  clear hcx
  go_enter Tryz.func59, Tryz.ntmps59
  have c00 := c0 (.cells cx 113) (.cells #[Value.int IntKind.u8 0, Value.int IntKind.u8 0, Value.int IntKind.u8 0, Value.int IntKind.u8 0, Value.int IntKind.u8 0, Value.int IntKind.u8 0, Value.int IntKind.u8 0, Value.int IntKind.u8 0, Value.int IntKind.u8 0, Value.int IntKind.u8 0, Value.int IntKind.u8 0, Value.int IntKind.u8 0, Value.int IntKind.u8 0, Value.int IntKind.u8 0, Value.int IntKind.u8 0, Value.int IntKind.u8 0] 113)
  have hz := Blk.new2 w (.cells cx 113) 113 #[Value.int IntKind.u8 0, Value.int IntKind.u8 0, Value.int IntKind.u8 0, Value.int IntKind.u8 0, Value.int IntKind.u8 0, Value.int IntKind.u8 0, Value.int IntKind.u8 0, Value.int IntKind.u8 0, Value.int IntKind.u8 0, Value.int IntKind.u8 0, Value.int IntKind.u8 0, Value.int IntKind.u8 0, Value.int IntKind.u8 0, Value.int IntKind.u8 0, Value.int IntKind.u8 0, Value.int IntKind.u8 0]
  have hxw := (Blk.new w 113 cx).alloc (.cells #[Value.int IntKind.u8 0, Value.int IntKind.u8 0, Value.int IntKind.u8 0, Value.int IntKind.u8 0, Value.int IntKind.u8 0, Value.int IntKind.u8 0, Value.int IntKind.u8 0, Value.int IntKind.u8 0, Value.int IntKind.u8 0, Value.int IntKind.u8 0, Value.int IntKind.u8 0, Value.int IntKind.u8 0, Value.int IntKind.u8 0, Value.int IntKind.u8 0, Value.int IntKind.u8 0, Value.int IntKind.u8 0] 113)
  have hbel := ((Below.refl w.heap.size w).alloc (Nat.le_refl _) (.cells cx 113)).alloc (by simp) (.cells #[Value.int IntKind.u8 0, Value.int IntKind.u8 0, Value.int IntKind.u8 0, Value.int IntKind.u8 0, Value.int IntKind.u8 0, Value.int IntKind.u8 0, Value.int IntKind.u8 0, Value.int IntKind.u8 0, Value.int IntKind.u8 0, Value.int IntKind.u8 0, Value.int IntKind.u8 0, Value.int IntKind.u8 0, Value.int IntKind.u8 0, Value.int IntKind.u8 0, Value.int IntKind.u8 0, Value.int IntKind.u8 0] 113)
  go_wp2_with fail
  generalize hw1 : (w.alloc (.cells cx 113)).alloc (.cells #[Value.int IntKind.u8 0, Value.int IntKind.u8 0, Value.int IntKind.u8 0, Value.int IntKind.u8 0, Value.int IntKind.u8 0, Value.int IntKind.u8 0, Value.int IntKind.u8 0, Value.int IntKind.u8 0, Value.int IntKind.u8 0, Value.int IntKind.u8 0, Value.int IntKind.u8 0, Value.int IntKind.u8 0, Value.int IntKind.u8 0, Value.int IntKind.u8 0, Value.int IntKind.u8 0, Value.int IntKind.u8 0] 113) = w1 at *
  obtain ⟨Z, hZ⟩ : ∃ Z : Array Value, Z = #[Value.int IntKind.u8 0, Value.int IntKind.u8 0, Value.int IntKind.u8 0, Value.int IntKind.u8 0, Value.int IntKind.u8 0, Value.int IntKind.u8 0, Value.int IntKind.u8 0, Value.int IntKind.u8 0, Value.int IntKind.u8 0, Value.int IntKind.u8 0, Value.int IntKind.u8 0, Value.int IntKind.u8 0, Value.int IntKind.u8 0, Value.int IntKind.u8 0, Value.int IntKind.u8 0, Value.int IntKind.u8 0] := ⟨_, rfl⟩
  rw [← hZ] at hz
  have hZs : Z.size = 16 := by rw [hZ]; rfl
  clear hZ hw1 c00 c0
  refine wp_region_tree (.q 0 (.q 1 (.q 2 (.q 3 (.q 4 (.e [5] fun _ => .q 6 (.q 7 (.e [8] fun _ => .q 9 (.done)))))))))
   (fun W => Below w.heap.size w W ∧ Blk W w.heap.size 113 cx) rfl (by kernel_rfl) (fun _ _ d _ _ h => by cases d <;> exact h) ?_
  change wpT _ _ _ _ _ _ w1.drew
  have hS : Below w.heap.size w w1.drew ∧ Blk w1.drew w.heap.size 113 cx := ⟨below_drewN hbel 1, hxw⟩
  have hz1 : Blk w1.drew (w.heap.size + 1) 113 Z := hz
  clear hbel hxw hz
  generalize w1.drew = w2 at *
  iterate 3 (refine t_q rfl rfl hS _ (fun W hW => by (go_simp; rfl)) ?_; go_simp)
  refine t_q rfl rfl hS (.slice (some ⟨gk, 0, none⟩) kl cp) (fun W hW => by (have hc := C1.out W hW.1; go_simp)) ?_
  go_simp
  refine t_load_bs rfl rfl 113 (.tmp 4) rfl w.heap.size 0 rfl x hS (fun W hW => HBX.out W hW.2) _ Tryz.underlying113 rfl (by rw [info_16u8, HXL.out]) ?_
  go_simp
  refine t_e rfl rfl fun K hK => ?_
  go_simp
  refine ((HC.out _ (KA.out _ hS.1)).2).mono ?_
  rintro e w3 ⟨rfl, hb3⟩
  have hS3 : Below w.heap.size w w3 ∧ Blk w3 w.heap.size 113 cx := ⟨hS.1.trans (hb3.mono hS.1.size), hS.2.below hb3 hS.2.lt⟩
  have hz3 := hz1.below hb3 hz1.lt
  refine hK _ _ hS3 ?_
  clear hK K hb3 hz1 hS
  go_simp
  iterate 2 (refine t_q rfl rfl hS3 _ (fun W hW => by (go_simp; rfl)) ?_; go_simp)
  refine t_e rfl rfl fun K hK => ?_
  refine op_store_row 113 (.tmp 6) (.tmp 44) rfl (w.heap.size + 1) (byteCells V) rfl rfl 113 _ hz3 (by rw [info_16u8, size_byteCells, HVL.out]) (by rw [size_byteCells, HVL.out, hZs]) (bytes_one _) fun w5 hB5 hO5 => ?_
  have hS5 : Below w.heap.size w w5 ∧ Blk w5 w.heap.size 113 cx := ⟨hO5.below hS3.1 (by omega), hS3.2.only hO5 (by omega)⟩
  refine hK _ _ hS5 ?_
  clear hK K hO5 hS3 hz3
  go_simp
  refine t_q rfl rfl hS5 _ (fun W hW => by (go_simp; rfl)) ?_
  go_simp
  refine t_done ?_
  go_wp2
  refine bodyPost_ret (v := .tuple #[.agg (byteCells V), .nilIface]) (results_agg_tmp rfl _ _ (w.heap.size + 1) 113 (byteCells V) _ (by rfl) hB5 Tryz.underlying113 rfl (by rw [info_16u8, size_byteCells, HVL.out]) _ (by rfl)) rfl ⟨rfl, hS5.1⟩

set_option maxHeartbeats 4000000 in
set_option maxRecDepth 100000 in
/-- one block of AES, with a key of 16 bytes -/
theorem doA_any (g : Nat) (key : List Nat) (kl nr : Nat) (hk : AesK kl nr) (hkl : key.length = kl) (hkb : Byt key) (bk : Value) (x : List Nat) (hx : x.length = 16) (gx : Byt x) (back : Bool) (A : Option Addr) (cx : Nat) (w : World) (hC : CipherAt w g 1 key bk) (hA : At w A x) :
    Calls Tryz.prog 30 #[.pointer (some ⟨g, 0, none⟩), .slice A 16 cx, .bool back] w fun e w' => (∃ gv, e = .returned (.tuple #[.slice (some ⟨gv, 0, none⟩) 16 16, .nilIface]) ∧ w.heap.size ≤ gv ∧ Blk w' gv 113 (byteCells (aesN key x back))) ∧ Below w.heap.size w w' := by
 have HSZ := Lib.hid (fun W hC => size_any 1 g (by omega) key bk W hC)
 obtain ⟨bx, ox, rfl, hBx⟩ := hA (by intro h; rw [h] at hx; cases hx)
 have hbx := hBx.lt (by intro h; rw [h] at hx; cases hx)
 have c0 : w.cell? ⟨g, 0, none⟩ = some (.int .i64 1) := by
  obtain ⟨gk, cp, hB, _⟩ := hC
  exact hB.cell 0
 have HW := Lib.hid (fun W hC => wide_any g key kl nr hk hkl hkb bk x hx gx back W hC)
 have hcc : ∀ W, Below w.heap.size w W → CipherAt W g 1 key bk := fun W hW => hC.below hW (Nat.le_refl _)
 have HCC := Lib.hid hcc; clear hcc
 have hvl := aesN_len key x back
 generalize aesN key x back = V at *
 have HVL := Lib.hid hvl; clear hvl
 have HX := Lib.hid hx; clear hx
 have hfx : ∀ W, Below w.heap.size w W → Bs W bx ox x := fun W hW => hBx.below hW hbx
 have HFX := Lib.hid hfx; clear hfx
 have HC0 := Lib.hid hC; clear hC
 clear hkl hkb hBx gx hA
 have harr : ∀ a c W, (Instr.arrayAt 113 (.slice a 16 c)).run Tryz.prog W = .ok (.pointer a) W := fun a c W => run_arrayAt _ 5 16 Tryz.underlying113 a 16 c (Nat.le_refl _) W
 go_enter Tryz.func30, Tryz.ntmps30
 go_wp2_with fail
 refine (HSZ.out _ HC0.out).mono ?_
 rintro e w1 ⟨rfl, rfl⟩
 have f16 : sizeN 1 = 16 := rfl
 rw [f16]
 have hBx := HFX.out w (Below.refl _ _)
 go_wp2_with (refine wpList_load_bs rfl 113 (.tmp 42) rfl bx ox rfl x hBx _ Tryz.underlying113 rfl (by rw [info_16u8, HX.out]) ?_)
 refine (HW.out _ HC0.out).mono ?_
 rintro e w3 ⟨rfl, hb3⟩
 go_wp2_with (refine wpList_store_all rfl 113 (.tmp 10) (.tmp 46) rfl w3.heap.size (byteCells V) rfl rfl 113 _ (Blk.new w3 _ _) (by rw [info_16u8, size_byteCells, HVL.out]) (by rw [size_byteCells, HVL.out]; rfl) (bytes_one _) ?_; intro w5 hB5 hO5)
 go_ret2
 exact ⟨⟨_, rfl, hb3.size, hB5⟩, hO5.below (hb3.alloc hb3.size _) hb3.size⟩
end Go.Proofs.YthodpjcdmdbnoaaGreatDoor
