/- The contracts of aes.Encrypt, aes.Decrypt, of a key of 16 bytes. -/
import Derived.Test.YtnkgglmfoimbhaaGreatDoorAesC
namespace Go.Proofs.YtnkgglmfoimbhaaGreatDoor
open Go Go.RowKit Pr

theorem box_is : BoxIs 137 boxG := fun a w h => gfbox_any a h w
theorem unbox_is : BoxIs 136 unboxG := fun a w h => gfunbox_any a h w
theorem mE_cells : byteCells mE = #[.int .u8 2, .int .u8 3, .int .u8 1, .int .u8 1] := rfl
theorem mD_cells : byteCells mD = #[.int .u8 14, .int .u8 11, .int .u8 13, .int .u8 9] := rfl

/-- the block, the words and the result's cell while a block is (de)ciphered -/
def AesSt (w : World) (gw : Nat) (ws : List Nat) (W : World) (l : List Nat) : Prop :=
  Blk W w.heap.size 39 (byteCells l) ∧ Bs W gw 0 ws ∧ (∃ z : Array Value, z.size = 16 ∧ Blk W (w.heap.size + 1) 39 z) ∧ Below w.heap.size w W
theorem AesSt.next {w W W' : World} {gw : Nat} {ws l l' : List Nat} (hs : AesSt w gw ws W l) (hk : Keep w.heap.size W W') (hB : Blk W' w.heap.size 39 (byteCells l')) (hg : w.heap.size + 2 ≤ gw) : AesSt w gw ws W' l' := by
  obtain ⟨_, h2, ⟨z, hz, h3⟩, h4⟩ := hs
  exact ⟨hB, h2.keep hk (by omega), ⟨z, hz, h3.keep hk (by omega)⟩, hk.below h4 h4.size (Nat.le_refl _)⟩

set_option maxHeartbeats 4000000 in
set_option maxRecDepth 100000 in
theorem encrypt_any (key b : List Nat) (hl : key.length = 16) (hb : Byt key) (hbl : b.length = 16) (hbb : Byt b) (A : Option Addr) (cp : Nat) (w : World) (hA : At w A key) :
    Calls Tryz.prog 101 #[.slice A 16 cp, .agg (byteCells b)] w fun e w' => e = .returned (.tuple #[.agg (byteCells (encG b (wordsG key) 10)), .nilIface]) ∧ Below w.heap.size w w' := by
  have HW := Lib.hid (fun W hA => words_any key hl hb A cp W hA)
  have hwl := wordsG_len hb hl
  have hwb := wordsG_byt hb
  have hsz := Lib.hid (size_byteCells b)
  generalize wordsG key = ws at *
  have HWL := Lib.hid hwl; clear hwl
  have HWB := Lib.hid hwb; clear hwb
  have HEO := Lib.hid (fun r => encTo_ok hbb HWB.out 10 r)
  have HR := Lib.hid (fun A cp W => rounds16 A cp W)
  have HBL := Lib.hid hbl; clear hbl
  have HBB := Lib.hid hbb; clear hbb
  have hA1 : ∀ o1 o2, At ((w.alloc o1).alloc o2) A key := fun o1 o2 hne => by
    obtain ⟨b, o, e, hB⟩ := hA hne
    exact ⟨b, o, e, (hB.alloc _).alloc _⟩
  have HA1 := Lib.hid hA1; clear hA1 hA hl hb
  obtain ⟨cb, hcb⟩ : ∃ cb, byteCells b = cb := ⟨_, rfl⟩
  rw [hcb] at hsz ⊢
  have HCB := Lib.hid hcb; clear hcb
  go_enter Tryz.func101, Tryz.ntmps101
  go_wp2_with fail
  refine (HW.out _ (HA1.out _ _)).mono ?_
  rintro e w1 ⟨⟨v, rfl, hv⟩, hb1⟩
  obtain ⟨gw, cw, rfl, hgw, hcw, hgwl, hBw⟩ := hv.form (by intro h; have := HWL.out; rw [h] at this; simp at this)
  rw [HWL.out] at hcw ⊢
  have hB1 : Blk w1 w.heap.size 39 (byteCells b) := by
    rw [HCB.out]
    exact ((Blk.new w _ _).alloc _).below hb1 (by simp; omega)
  have hZ1 : ∃ z : Array Value, z.size = 16 ∧ Blk w1 (w.heap.size + 1) 39 z := ⟨_, by rfl, Blk.below (Blk.new2 w _ _ _) hb1 (by simp)⟩
  have hbel1 : Below w.heap.size w w1 := (((Below.refl _ _).alloc (Nat.le_refl _) _).alloc (by simp) _).trans (hb1.mono (by simp; omega))
  have hgw2 : w.heap.size + 2 ≤ gw := by simpa using hgw
  clear hv hb1 hgw
  go_wp2_with fail
  refine (HR.out _ _ _).mono ?_
  rintro e w2 ⟨rfl, rfl⟩
  have s1 : AesSt w gw ws w1 b := ⟨hB1, hBw, hZ1, hbel1⟩
  clear hB1 hBw hZ1 hbel1
  go_wp2_with fail
  refine (with_any w.heap.size b ws 0 176 cw HBL.out HBB.out HWB.out (by omega) HWL.out (by omega) gw 0 w1 s1.1 s1.2.1 (by omega)).mono ?_
  rintro e w2 ⟨rfl, hB2, hk2⟩
  have s2 : AesSt w gw ws w2 (encTo b ws 10 0) := s1.next hk2 hB2 hgw2
  clear s1 hB2 hk2
  go_wp2
  go_loopw [9] (fun i wr => ∃ q : Nat, q ≤ 10 ∧ i = .int .i64 (q + 1 : Nat) ∧ AesSt w gw ws wr (encTo b ws 10 q)) (fun i _ => 11 - (intOf i).toNat)
  case atStart => exact ⟨0, by omega, rfl, s2⟩
  case round =>
    obtain ⟨q, hq, rfl, s3⟩ := hrel
    clear s2
    obtain ⟨hel, heb⟩ := HEO.out q
    by_cases hlt : q < 10
    · have hen : encTo b ws 10 (q + 1) = withG (if q + 1 < 10 then columnsG (rowsG ((encTo b ws 10 q).map boxG) 1) mE else rowsG ((encTo b ws 10 q).map boxG) 1) ws (q + 1) := rfl
      generalize encTo b ws 10 q = E at *
      have hml : (E.map boxG).length = 16 := by rw [List.length_map, hel]
      have hmb := box_byt heb
      have hrl := rowsG_len (E.map boxG) 1
      have hrb := rowsG_byt hmb 1
      go_wp2_with fail
      refine (boxes_any 137 boxG box_is (Or.inl rfl) w.heap.size E hel heb wr s3.1).mono ?_
      rintro e w3 ⟨rfl, hB3, hk3⟩
      have s4 := s3.next hk3 hB3 hgw2
      clear s3 hB3 hk3
      go_wp2_with fail
      refine (rows_any w.heap.size (E.map boxG) 1 (Or.inl rfl) hml w3 s4.1).mono ?_
      rintro e w4 ⟨rfl, hB4, hk4⟩
      have s5 := s4.next hk4 hB4 hgw2
      clear s4 hB4 hk4
      generalize rowsG (E.map boxG) 1 = R at *
      have HEN := Lib.hid hen; clear hen hml hmb hel heb
      by_cases hl9 : q + 1 < 10
      · have hen := HEN.out
        rw [if_pos hl9] at hen
        have HEN2 := Lib.hid hen; clear hen HEN
        go_wp2_with fail
        refine (columns_any w.heap.size R mE hrl hrb rfl mE_byt w4 s5.1).mono ?_
        rintro e w5 ⟨rfl, hB5, hk5⟩
        have s6 := s5.next hk5 hB5 hgw2
        clear s5 hB5 hk5
        go_wp2_with fail
        refine (with_any w.heap.size (columnsG R mE) ws (q + 1) 176 cw (columnsG_len _ _) (columnsG_byt mE_byt) HWB.out (by omega) HWL.out (by omega) gw 0 w5 s6.1 s6.2.1 (by omega)).mono ?_
        rintro e w6 ⟨rfl, hB6, hk6⟩
        rw [← HEN2.out] at hB6
        have s7 := s6.next hk6 hB6 hgw2
        clear s6 hB6 hk6
        go_wp2
        go_roundw
        case rel => exact ⟨q + 1, by omega, by go_num, s7⟩
        case measure => simp [intOf]; omega
      · have hen := HEN.out
        rw [if_neg hl9] at hen
        have HEN2 := Lib.hid hen; clear hen HEN
        go_wp2_with fail
        refine (with_any w.heap.size R ws (q + 1) 176 cw hrl hrb HWB.out (by omega) HWL.out (by omega) gw 0 w4 s5.1 s5.2.1 (by omega)).mono ?_
        rintro e w6 ⟨rfl, hB6, hk6⟩
        rw [← HEN2.out] at hB6
        have s7 := s5.next hk6 hB6 hgw2
        clear s5 hB6 hk6
        go_wp2
        go_roundw
        case rel => exact ⟨q + 1, by omega, by go_num, s7⟩
        case measure => simp [intOf]; omega
    · obtain rfl : q = 10 := by omega
      have hfin : encTo b ws 10 10 = encG b ws 10 := rfl
      rw [hfin] at s3 hel
      obtain ⟨E, hE⟩ : ∃ E, encG b ws 10 = E := ⟨_, rfl⟩
      rw [hE] at s3 hel
      have HE := Lib.hid hE; clear hE hfin heb
      obtain ⟨hB3, -, ⟨z, hz, hZ3⟩, hbel3⟩ := s3
      have hez := Lib.hid (size_byteCells E)
      have HEL := Lib.hid hel; clear hel
      go_wp2_with (first
        | (refine wpList_load_row rfl 39 (.tmp 3) rfl w.heap.size rfl 39 _ (0,0) _ hB3 Tryz.underlying39 rfl (by rw [info_16u8, hez.out, HEL.out]) ?_)
        | (refine wpList_store_all rfl 39 (.tmp 4) (.tmp 38) rfl (w.heap.size + 1) (byteCells E) rfl rfl 39 _ hZ3 (by rw [info_16u8, hez.out, HEL.out]) (by rw [hez.out, HEL.out, hz]) (bytes_one _) ?_; intro w9 hB9 hO9))
      refine bodyPost_ret (v := .tuple #[.agg (byteCells E), .nilIface]) (results_agg_tmp rfl _ _ (w.heap.size + 1) 39 (byteCells E) _ (by rfl) hB9 Tryz.underlying39 rfl (by rw [info_16u8, hez.out, HEL.out]) _ (by rfl)) rfl ⟨by rw [HE.out], ?_⟩
      exact hO9.below hbel3 (by omega)
theorem decTo_ok {b w : List Nat} (hl : b.length = 16) (hb : Byt b) (hw : Byt w) (n : Nat) : ∀ k, (decTo b w n k).length = 16 ∧ Byt (decTo b w n k)
  | 0 => ⟨hl, hb⟩
  | k + 1 => by
    have ih := decTo_ok hl hb hw n k
    unfold decTo
    refine ⟨by rw [List.length_map, rowsG_len], unbox_byt (rowsG_byt ?_ 3)⟩
    split
    · exact columnsG_byt mD_byt
    · exact withG_byt ih.2 hw _

set_option maxHeartbeats 4000000 in
set_option maxRecDepth 100000 in
theorem decrypt_any (key b : List Nat) (hl : key.length = 16) (hb : Byt key) (hbl : b.length = 16) (hbb : Byt b) (A : Option Addr) (cp : Nat) (w : World) (hA : At w A key) :
    Calls Tryz.prog 100 #[.slice A 16 cp, .agg (byteCells b)] w fun e w' => e = .returned (.tuple #[.agg (byteCells (decG b (wordsG key) 10)), .nilIface]) ∧ Below w.heap.size w w' := by
  have HW := Lib.hid (fun W hA => words_any key hl hb A cp W hA)
  have hwl := wordsG_len hb hl
  have hwb := wordsG_byt hb
  have hsz := Lib.hid (size_byteCells b)
  generalize wordsG key = ws at *
  have HWL := Lib.hid hwl; clear hwl
  have HWB := Lib.hid hwb; clear hwb
  have HEO := Lib.hid (fun r => decTo_ok hbl hbb HWB.out 10 r)
  have HR := Lib.hid (fun A cp W => rounds16 A cp W)
  have HBL := Lib.hid hbl; clear hbl
  have HBB := Lib.hid hbb; clear hbb
  have hA1 : ∀ o1 o2, At ((w.alloc o1).alloc o2) A key := fun o1 o2 hne => by
    obtain ⟨b, o, e, hB⟩ := hA hne
    exact ⟨b, o, e, (hB.alloc _).alloc _⟩
  have HA1 := Lib.hid hA1; clear hA1 hA hl hb
  obtain ⟨cb, hcb⟩ : ∃ cb, byteCells b = cb := ⟨_, rfl⟩
  rw [hcb] at hsz ⊢
  have HCB := Lib.hid hcb; clear hcb
  go_enter Tryz.func100, Tryz.ntmps100
  go_wp2_with fail
  refine (HW.out _ (HA1.out _ _)).mono ?_
  rintro e w1 ⟨⟨v, rfl, hv⟩, hb1⟩
  obtain ⟨gw, cw, rfl, hgw, hcw, hgwl, hBw⟩ := hv.form (by intro h; have := HWL.out; rw [h] at this; simp at this)
  rw [HWL.out] at hcw ⊢
  have hB1 : Blk w1 w.heap.size 39 (byteCells b) := by
    rw [HCB.out]
    exact ((Blk.new w _ _).alloc _).below hb1 (by simp; omega)
  have hZ1 : ∃ z : Array Value, z.size = 16 ∧ Blk w1 (w.heap.size + 1) 39 z := ⟨_, by rfl, Blk.below (Blk.new2 w _ _ _) hb1 (by simp)⟩
  have hbel1 : Below w.heap.size w w1 := (((Below.refl _ _).alloc (Nat.le_refl _) _).alloc (by simp) _).trans (hb1.mono (by simp; omega))
  have hgw2 : w.heap.size + 2 ≤ gw := by simpa using hgw
  clear hv hb1 hgw
  go_wp2_with fail
  refine (HR.out _ _ _).mono ?_
  rintro e w2 ⟨rfl, rfl⟩
  have s1 : AesSt w gw ws w1 b := ⟨hB1, hBw, hZ1, hbel1⟩
  clear hB1 hBw hZ1 hbel1
  have s2 : AesSt w gw ws w1 (decTo b ws 10 0) := s1
  clear s1
  go_wp2
  go_loopw [9] (fun i wr => ∃ k r : Nat, r + k = 10 ∧ i = .int .i64 r ∧ AesSt w gw ws wr (decTo b ws 10 k)) (fun i _ => (intOf i).toNat)
  case atStart => exact ⟨0, 10, rfl, rfl, s2⟩
  case round =>
    obtain ⟨k, r, hkr, rfl, s3⟩ := hrel
    clear s2
    obtain ⟨hel, heb⟩ := HEO.out k
    by_cases hlt : 1 ≤ r
    · have hen : decTo b ws 10 (k + 1) = (rowsG (if 10 - k < 10 then columnsG (withG (decTo b ws 10 k) ws (10 - k)) mD else withG (decTo b ws 10 k) ws (10 - k)) 3).map unboxG := rfl
      rw [show 10 - k = r by omega] at hen
      generalize decTo b ws 10 k = E at *
      have e1 : IntKind.i64.wrap ((r : Int) - 1) = ((r - 1 : Nat) : Int) := by rw [IntWalk.i64_in _ (by omega)]; omega
      have hrI : (1 : Int) ≤ (r : Int) := by omega
      go_wp2_with fail
      refine (with_any w.heap.size E ws r 176 cw hel heb HWB.out (by omega) HWL.out (by omega) gw 0 wr s3.1 s3.2.1 (by omega)).mono ?_
      rintro e w3 ⟨rfl, hB3, hk3⟩
      have s4 := s3.next hk3 hB3 hgw2
      have hwl := withG_len E ws r
      have hwb := withG_byt heb HWB.out r
      clear s3 hB3 hk3
      generalize withG E ws r = F at *
      have HEN := Lib.hid hen; clear hen hel heb
      by_cases hl9 : r < 10
      · have hen := HEN.out
        rw [if_pos hl9] at hen
        have HEN2 := Lib.hid hen; clear hen HEN
        go_wp2_with fail
        refine (columns_any w.heap.size F mD hwl hwb rfl mD_byt w3 s4.1).mono ?_
        rintro e w5 ⟨rfl, hB5, hk5⟩
        have s5 := s4.next hk5 hB5 hgw2
        clear s4 hB5 hk5
        go_wp2_with fail
        refine (rows_any w.heap.size (columnsG F mD) 3 (Or.inr rfl) (columnsG_len _ _) w5 s5.1).mono ?_
        rintro e w4 ⟨rfl, hB4, hk4⟩
        have s6 := s5.next hk4 hB4 hgw2
        clear s5 hB4 hk4
        go_wp2_with fail
        refine (boxes_any 136 unboxG unbox_is (Or.inr rfl) w.heap.size _ (rowsG_len _ _) (rowsG_byt (columnsG_byt mD_byt) 3) w4 s6.1).mono ?_
        rintro e w6 ⟨rfl, hB6, hk6⟩
        rw [← HEN2.out] at hB6
        have s7 := s6.next hk6 hB6 hgw2
        clear s6 hB6 hk6
        go_wp2
        go_roundw
        case rel => exact ⟨k + 1, r - 1, by omega, by go_num, s7⟩
        case measure => simp [intOf]; omega
      · have hen := HEN.out
        rw [if_neg hl9] at hen
        have HEN2 := Lib.hid hen; clear hen HEN
        go_wp2_with fail
        refine (rows_any w.heap.size F 3 (Or.inr rfl) hwl w3 s4.1).mono ?_
        rintro e w4 ⟨rfl, hB4, hk4⟩
        have s6 := s4.next hk4 hB4 hgw2
        clear s4 hB4 hk4
        go_wp2_with fail
        refine (boxes_any 136 unboxG unbox_is (Or.inr rfl) w.heap.size _ (rowsG_len _ _) (rowsG_byt hwb 3) w4 s6.1).mono ?_
        rintro e w6 ⟨rfl, hB6, hk6⟩
        rw [← HEN2.out] at hB6
        have s7 := s6.next hk6 hB6 hgw2
        clear s6 hB6 hk6
        go_wp2
        go_roundw
        case rel => exact ⟨k + 1, r - 1, by omega, by go_num, s7⟩
        case measure => simp [intOf]; omega
    · obtain rfl : r = 0 := by omega
      obtain rfl : k = 10 := by omega
      have hfin : decG b ws 10 = withG (decTo b ws 10 10) ws 0 := rfl
      go_wp2_with fail
      refine (with_any w.heap.size _ ws 0 176 cw hel heb HWB.out (by omega) HWL.out (by omega) gw 0 wr s3.1 s3.2.1 (by omega)).mono ?_
      rintro e w3 ⟨rfl, hB3, hk3⟩
      rw [← hfin] at hB3
      have s4 := s3.next hk3 hB3 hgw2
      have hel2 := decG_len b ws 10
      obtain ⟨E, hE⟩ : ∃ E, decG b ws 10 = E := ⟨_, rfl⟩
      rw [hE] at s4 hel2
      have HE := Lib.hid hE; clear hE hfin heb hel s3 hB3 hk3
      obtain ⟨hB3, -, ⟨z, hz, hZ3⟩, hbel3⟩ := s4
      have hez := Lib.hid (size_byteCells E)
      have HEL := Lib.hid hel2; clear hel2
      go_wp2_with (first
        | (refine wpList_load_row rfl 39 (.tmp 3) rfl w.heap.size rfl 39 _ (0,0) _ hB3 Tryz.underlying39 rfl (by rw [info_16u8, hez.out, HEL.out]) ?_)
        | (refine wpList_store_all rfl 39 (.tmp 4) (.tmp 38) rfl (w.heap.size + 1) (byteCells E) rfl rfl 39 _ hZ3 (by rw [info_16u8, hez.out, HEL.out]) (by rw [hez.out, HEL.out, hz]) (bytes_one _) ?_; intro w9 hB9 hO9))
      refine bodyPost_ret (v := .tuple #[.agg (byteCells E), .nilIface]) (results_agg_tmp rfl _ _ (w.heap.size + 1) 39 (byteCells E) _ (by rfl) hB9 Tryz.underlying39 rfl (by rw [info_16u8, hez.out, HEL.out]) _ (by rfl)) rfl ⟨by rw [HE.out], ?_⟩
      exact hO9.below hbel3 (by omega)
end Go.Proofs.YtnkgglmfoimbhaaGreatDoor
