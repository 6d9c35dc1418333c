/- lockboxlaw11.WrapKeeps: the walk. -/
import Derived.Test.YtfkjkkjimdilcaaGreatDoorLaw11
import Derived.Test.YtfkjkkjimdilcaaGreatDoorHeadM
namespace Go.Proofs.YtfkjkkjimdilcaaGreatDoor
open Go Go.RowKit Pr

theorem xor255k (c : Nat) (h : c < 256) : bits .xor .u8 (c : Int) 255 = ((c ^^^ 255 : Nat) : Int) := u8_xor_nat c 255 h (by omega)
theorem set_bytk {L : List Nat} (h : ∀ c ∈ L, c < 256) (k v : Nat) (hv : v < 256) : ∀ c ∈ L.set k v, c < 256 := fun c hc => by
  rcases List.mem_or_eq_of_mem_set hc with h1 | rfl
  · exact h c h1
  · exact hv
theorem keepsIn (l m : List Nat) (gl : Byt l) (gm : Byt m) : WrapIn (hS 66) (someN l 16) (someN m 16) (someN m 6) where
  hr := by kernel_rfl
  hk := ⟨someN_byt gl 16, .inl ⟨rfl, .inl (someN_len _ _)⟩⟩
  gk := someN_byt gm 16
  gf := someN_byt gm 6
  hfits := by rw [someN_len]; decide
  hfill := by rw [someN_len, someN_len]; decide
  hf0 := by rw [someN_len]; decide

set_option maxHeartbeats 4000000 in
set_option maxRecDepth 100000 in
theorem keeps11_main (l m : List Nat) (L0 M0 : Nat) (hl : l.length = L0) (hm : m.length = M0) (gl : Byt l) (gm : Byt m) (hL : L0 ≤ 100) (hM : M0 ≤ 100) (A0 A1 : Option Addr) (c0 c1 : Nat) (w : World) (hA0 : At w A0 l) (hA1 : At w A1 m) (hG : EtOk w) (hT : TabOk w) :
    Calls Tryz.prog 4 #[.slice A0 L0 c0, .slice A1 M0 c1] w fun e w' => e = .returned (.bool true) ∧ Below w.heap.size w w' := by
  have hin := keepsIn l m gl gm
  have HAW := Lib.hid (fun W (hb : Below w.heap.size w W) => awake11_any W (hG.below hb (Nat.le_refl _)) (fun W' hb' => (hT.below hb).below hb'))
  have HSA := Lib.hid (fun W => sample_any 66 W)
  have hws := fun A0 A1 A2 c0 c1 c2 W h0 h1 h2 hTW => wrap_ok (hS 66) hin.hr (someN l 16) 16 hin.hk (someN_len _ _) (someN m 16) (someN m 6) 16 6 (someN_len _ _) (someN_len _ _) hin.gk hin.gf (by have := hin.hfits; rwa [someN_len] at this) (by have := hin.hfill; rwa [someN_len, someN_len] at this) (by omega) A0 A1 A2 c0 c1 c2 W h0 h1 h2 hTW
  have HWR := Lib.hid hws; clear hws
  have HUN := Lib.hid (fun A0 c0 W h0 hGW => back11 (hS 66) (someN l 16) (someN m 16) (someN m 6) hin 16 (someN_len _ _) A0 c0 W h0 hGW)
  have HKY := Lib.hid (fun A c W hA => keys_ok 66 2 rfl (someN l 16) hin.hk 16 (someN_len _ _) A c W hA)
  have hX1 : (madeN 2 (someN l 16) 0).length = 16 := by
    have := (madeN_ok hin.hk (p := 0) (by omega)).1
    rwa [someN_len] at this
  have hX0 := madeN_key hin.hk (p := 0) (by omega)
  rw [show kindV (hS 66).ver.toNat = 2 from rfl] at hX0
  have hX2 := hX0.1
  clear hX0
  have HW16 := Lib.hid (fun n hn A c W hA => some_any l L0 hl (by omega) gl n hn A c W hA)
  have HM16 := Lib.hid (fun n hn A c W hA => some_any m M0 hm (by omega) gm n hn A c W hA)
  have hsw := fun A B ca cb W hA hB => same_any (someN l 16) (someN l 16) A B ca cb (someN_byt gl 16) (someN_byt gl 16) (by rw [someN_len]; decide) W hA hB
  have hsk := fun A B ca cb W hA hB => same_any (someN m 16) (someN m 16) A B ca cb (someN_byt gm 16) (someN_byt gm 16) (by rw [someN_len]; decide) W hA hB
  have hsf := fun A B ca cb W hA hB => same_any (someN m 6) (someN m 6) A B ca cb (someN_byt gm 6) (someN_byt gm 6) (by rw [someN_len]; decide) W hA hB
  rw [someN_len, decide_eq_true rfl] at hsw hsk hsf
  have HSW := Lib.hid hsw; clear hsw
  have HSK := Lib.hid hsk; clear hsk
  have HSF := Lib.hid hsf; clear hsf
  have HLW := Lib.hid (someN_len l 16)
  have HLK := Lib.hid (someN_len m 16)
  have HLF := Lib.hid (someN_len m 6)
  have HKB := Lib.hid (someN_byt gm 16)
  have HXL := Lib.hid hX1; clear hX1
  have HXB := Lib.hid hX2; clear hX2
  have hcs6 : (hS 66).cells.size = 6 := rfl
  have hco : (hS 66).cells.all (·.oneCell') = true := by simp [Hd.cells, Value.oneCell']
  have HW := Lib.hid (HW16.out 16 (by omega))
  have HK := Lib.hid (HM16.out 16 (by omega))
  have HF := Lib.hid (HM16.out 6 (by omega))
  clear hin HW16 HM16
  generalize str (wrapS (hS 66) (someN l 16) (someN m 16) (someN m 6)) = S at *
  generalize madeN 2 (someN l 16) 0 = XN at *
  generalize madeN 2 (someN l 16) 1 = YN at *
  generalize someN l 16 = WN at *
  generalize someN m 16 = KN at *
  generalize someN m 6 = FN at *
  generalize (hS 66).cells = cs at *
  have HS6 := Lib.hid hcs6; clear hcs6
  have HCO := Lib.hid hco; clear hco
  have HA0 := Lib.hid hA0; clear hA0
  have HA1 := Lib.hid hA1; clear hA1
  have hL1 : ¬ 100 < (L0 : Int) := by omega
  have hM1 : ¬ 100 < (M0 : Int) := by omega
  have HG := Lib.hid hG; clear hG
  have HT := Lib.hid hT; clear hT
  clear hl hm gl gm hL hM
  go_enter Tryz.func4, Tryz.ntmps4
  go_wp2_with fail
  refine (HAW.out _ (Below.refl _ _)).mono ?_
  rintro e w1 ⟨rfl, hb1⟩
  go_wp2_with fail
  refine (HW.out _ _ _ (HA0.out.below hb1 (Nat.le_refl _))).mono ?_
  rintro e w2 ⟨⟨v, rfl, hv⟩, hb2⟩
  have hbel2 := hb1.trans (hb2.mono hb1.size)
  obtain ⟨g5, c5, rfl, hA5, -, -⟩ := hv.at_ HLW.out (by omega)
  clear hv hb1 hb2
  go_wp2_with fail
  refine (HK.out _ _ _ (HA1.out.below hbel2 (Nat.le_refl _))).mono ?_
  rintro e w3 ⟨⟨v, rfl, hv⟩, hb3⟩
  have hbel3 := hbel2.trans (hb3.mono hbel2.size)
  obtain ⟨g6, c6, rfl, hA6, -, -⟩ := hv.at_ HLK.out (by omega)
  have hA5 := hA5.below hb3 (Nat.le_refl _)
  clear hv hbel2 hb3
  go_wp2_with fail
  refine (HF.out _ _ _ (HA1.out.below hbel3 (Nat.le_refl _))).mono ?_
  rintro e w4 ⟨⟨v, rfl, hv⟩, hb4⟩
  have hbel4 := hbel3.trans (hb4.mono hbel3.size)
  obtain ⟨g7, c7, rfl, hA7, -, -⟩ := hv.at_ HLF.out (by omega)
  have hA5 := hA5.below hb4 (Nat.le_refl _)
  have hA6 := hA6.below hb4 (Nat.le_refl _)
  clear hv hbel3 hb4
  go_wp2_with fail
  refine (HSA.out _).mono ?_
  rintro e w5 ⟨rfl, hb5⟩
  have hbel5 := hbel4.trans (hb5.mono hbel4.size)
  have hA5 := hA5.below hb5 (Nat.le_refl _)
  have hA6 := hA6.below hb5 (Nat.le_refl _)
  have hA7 := hA7.below hb5 (Nat.le_refl _)
  clear hbel4 hb5
  go_wp2_with fail
  refine (HWR.out _ _ _ _ _ _ w5 hA5 hA6 hA7 (fun W hW => (HT.out.below hbel5).below hW)).mono ?_
  rintro e w6 ⟨rfl, hb6⟩
  have hbel6 := hbel5.trans (hb6.mono hbel5.size)
  have HW6 := Lib.hid (hA5.below hb6 (Nat.le_refl _))
  have HK6 := Lib.hid (hA6.below hb6 (Nat.le_refl _))
  have HF6 := Lib.hid (hA7.below hb6 (Nat.le_refl _))
  clear hbel5 hb6 hA5 hA6 hA7
  go_wp2_with fail
  refine (HUN.out _ _ _ HW6.out (HG.out.below hbel6 (Nat.le_refl _))).mono ?_
  rintro e w7 ⟨⟨v, rfl, hv⟩, hb7⟩
  obtain ⟨g9, c9, e9, hg9, hc9, hgl9, -⟩ := hv.form (ne_nil HLK.out (by omega))
  rw [HLK.out] at e9 hc9
  subst e9
  have hbn := (Below.refl w7.heap.size w7).alloc (Nat.le_refl _) (.cells #[.int .u8 0, .string ⟨#[]⟩, .int .u8 0, .int .u8 0, .string ⟨#[]⟩, .int .u8 0] 24)
  have HV7 := Lib.hid hv; clear hv
  go_wp2_with (first
    | (refine wpList_store_all rfl 24 (.tmp 10) (.tmp 52) rfl w7.heap.size cs rfl rfl 24 #[.int .u8 0, .string ⟨#[]⟩, .int .u8 0, .int .u8 0, .string ⟨#[]⟩, .int .u8 0] (Blk.new w7 _ _) (by rw [info_head, HS6.out]) (by rw [HS6.out]; rfl) HCO.out ?_; intro w8 hH8 hO8; have hb8 := hO8.below hbn (Nat.le_refl _); have hv8 := Lib.hid (HV7.out.below hb8 (Nat.le_refl _)); have hI8 : Below w6.heap.size w6 w8 := hb7.trans (hb8.mono hb7.size); clear hH8 hO8 hb8))
  have hg96 : w6.heap.size ≤ g9 := hg9
  have hbel8 : Below w.heap.size w w8 := hbel6.trans (hI8.mono hbel6.size)
  clear HV7 hb7 hbn hg9
  go_loopw [13] (fun i wr => ∃ k : Nat, k ≤ 16 ∧ i = .int .i64 k ∧ ∃ L, Hid (L.length = 16) ∧ Hid (∀ c ∈ L, c < 256) ∧ Hid (Own wr w6.heap.size (.slice (some ⟨g9, 0, none⟩) 16 c9) L) ∧ Only g9 w8 wr) (fun i _ => 16 - (intOf i).toNat)
  case atStart => exact ⟨0, by omega, rfl, KN, HLK, HKB, hv8, Only.refl _ _⟩
  case round =>
    obtain ⟨k, hk, rfl, L, hLl, hLt, hown, honly⟩ := hrel
    by_cases hlt : k < 16
    · have hki : (k : Int) < 16 := by omega
      have hkL : k < L.length := by rw [hLl.out]; exact hlt
      have hc1 : wr.cell? ⟨g9, k, none⟩ = some (.int .u8 (L[k] : Nat)) := hown.out.cellAt k hkL
      have hfr : wr.frozen? ⟨g9, k, none⟩ = false := hown.out.frz hLl.out k
      have hx := xor255k L[k] (hLt.out _ (List.getElem_mem _))
      have hx2 : L[k] ^^^ 255 < 256 := Nat.xor_lt_two_pow (n := 8) (hLt.out _ (List.getElem_mem _)) (by decide)
      have hset := hown.out.set k (L[k] ^^^ 255)
      have hLl2 : Hid ((L.set k (L[k] ^^^ 255)).length = 16) := by show (L.set k _).length = 16; rw [List.length_set, hLl.out]
      have hLt2 : Hid (∀ c ∈ L.set k (L[k] ^^^ 255), c < 256) := set_bytk hLt.out k _ hx2
      have honly2 := honly.trans (Only.setCell wr g9 k (.int .u8 ((L[k] ^^^ 255 : Nat) : Int)))
      generalize L.set k (L[k] ^^^ 255) = L2 at *
      rw [← hx] at hset honly2
      generalize L[k] = c at *
      clear hx hown honly
      have HSET := Lib.hid hset; clear hset
      have HON := Lib.hid honly2; clear honly2
      go_wp2
      exact ⟨⟨k + 1, by omega, by go_num, L2, hLl2, hLt2, HSET, HON.out⟩, by simp [intOf]; omega⟩
    · obtain rfl : k = 16 := by omega
      have hI9 : Below w6.heap.size w6 wr := honly.below hI8 hg96
      have hbel9 : Below w.heap.size w wr := hbel6.trans (hI9.mono hbel6.size)
      obtain ⟨w9, rfl⟩ : ∃ w9, w9 = wr := ⟨_, rfl⟩
      clear hLt hLl hown honly hv8 hI8 hbel8
      go_wp2_with fail
      refine (HKY.out _ _ _ (HW6.out.below hI9 (Nat.le_refl _))).mono ?_
      rintro e wA ⟨⟨va, vb, rfl, hva, -⟩, hbA⟩
      obtain ⟨gx, cx, ex, hgx, -, -, -⟩ := hva.form (ne_nil HXL.out (by omega))
      rw [HXL.out] at ex
      subst ex
      have hIA : Below w6.heap.size w6 wA := hI9.trans (hbA.mono hI9.size)
      have hgx6 : w6.heap.size ≤ gx := Nat.le_trans hI9.size hgx
      have HVA := Lib.hid hva
      clear hva hbA hI9 hbel9 hgx
      go_wp2
      go_loopw [17] (fun i wr => ∃ k : Nat, k ≤ 16 ∧ i = .int .i64 k ∧ ∃ L, Hid (L.length = 16) ∧ Hid (∀ c ∈ L, c < 256) ∧ Hid (Own wr w9.heap.size (.slice (some ⟨gx, 0, none⟩) 16 cx) L) ∧ Only gx wA wr) (fun i _ => 16 - (intOf i).toNat)
      case atStart => exact ⟨0, by omega, rfl, XN, HXL, HXB, HVA, Only.refl _ _⟩
      case round =>
        obtain ⟨k, hk, rfl, L, hLl, hLt, hown, honly⟩ := hrel
        by_cases hlt : k < 16
        · have hki : (k : Int) < 16 := by omega
          have hkL : k < L.length := by rw [hLl.out]; exact hlt
          have hc1 : wr.cell? ⟨gx, k, none⟩ = some (.int .u8 (L[k] : Nat)) := hown.out.cellAt k hkL
          have hfr : wr.frozen? ⟨gx, k, none⟩ = false := hown.out.frz hLl.out k
          have hx := xor255k L[k] (hLt.out _ (List.getElem_mem _))
          have hx2 : L[k] ^^^ 255 < 256 := Nat.xor_lt_two_pow (n := 8) (hLt.out _ (List.getElem_mem _)) (by decide)
          have hset := hown.out.set k (L[k] ^^^ 255)
          have hLl2 : Hid ((L.set k (L[k] ^^^ 255)).length = 16) := by show (L.set k _).length = 16; rw [List.length_set, hLl.out]
          have hLt2 : Hid (∀ c ∈ L.set k (L[k] ^^^ 255), c < 256) := set_bytk hLt.out k _ hx2
          have honly2 := honly.trans (Only.setCell wr gx k (.int .u8 ((L[k] ^^^ 255 : Nat) : Int)))
          generalize L.set k (L[k] ^^^ 255) = L2 at *
          rw [← hx] at hset honly2
          generalize L[k] = c at *
          clear hx hown honly
          have HSET := Lib.hid hset; clear hset
          have HON := Lib.hid honly2; clear honly2
          go_wp2
          exact ⟨⟨k + 1, by omega, by go_num, L2, hLl2, hLt2, HSET, HON.out⟩, by simp [intOf]; omega⟩
        · obtain rfl : k = 16 := by omega
          have hIB : Below w6.heap.size w6 wr := honly.below hIA hgx6
          have hbelB : Below w.heap.size w wr := hbel6.trans (hIB.mono hbel6.size)
          obtain ⟨wB, rfl⟩ : ∃ wB, wB = wr := ⟨_, rfl⟩
          clear hLt hLl hown honly HVA hIA
          go_wp2_with fail
          refine (HUN.out _ _ _ (HW6.out.below hIB (Nat.le_refl _)) (HG.out.below hbelB (Nat.le_refl _))).mono ?_
          rintro e wC ⟨⟨v, rfl, hv⟩, hbC⟩
          obtain ⟨gb, cb, rfl, hAC, -, -⟩ := hv.at_ HLK.out (by omega)
          have hIC : Below w6.heap.size w6 wC := hIB.trans (hbC.mono hIB.size)
          have hbn := (Below.refl wC.heap.size wC).alloc (Nat.le_refl _) (.cells #[.int .u8 0, .string ⟨#[]⟩, .int .u8 0, .int .u8 0, .string ⟨#[]⟩, .int .u8 0] 24)
          have HAC := Lib.hid hAC
          clear hv hAC hIB hbelB hbC
          go_wp2_with (first
            | (refine wpList_store_all rfl 24 (.tmp 18) (.tmp 99) rfl wC.heap.size cs rfl rfl 24 #[.int .u8 0, .string ⟨#[]⟩, .int .u8 0, .int .u8 0, .string ⟨#[]⟩, .int .u8 0] (Blk.new wC _ _) (by rw [info_head, HS6.out]) (by rw [HS6.out]; rfl) HCO.out ?_; intro wD hHD hOD; have hbD := hOD.below hbn (Nat.le_refl _); have hAD := Lib.hid (HAC.out.below hbD (Nat.le_refl _)); have hID : Below w6.heap.size w6 wD := hIC.trans (hbD.mono hIC.size); clear hHD hOD hbD))
          refine (HSK.out _ _ _ _ _ hAD.out (HK6.out.below hID (Nat.le_refl _))).mono ?_
          rintro e wE ⟨rfl, n1, rfl⟩
          have hIE := below_drewN hID n1
          have hbelE := hbel6.trans (hIE.mono hbel6.size)
          generalize wD.drewN n1 = wE at *
          clear hID hAD HAC hbn hIC
          go_wp2_with fail
          refine (HK.out _ _ _ (HA1.out.below hbelE (Nat.le_refl _))).mono ?_
          rintro e wF ⟨⟨v, rfl, hv⟩, hbF⟩
          obtain ⟨gF, cF, rfl, hAF, -, -⟩ := hv.at_ HLK.out (by omega)
          have hIF := hIE.trans (hbF.mono hIE.size)
          have HAF := Lib.hid hAF
          clear hv hAF hbF hIE hbelE
          go_wp2_with fail
          refine (HSK.out _ _ _ _ _ (HK6.out.below hIF (Nat.le_refl _)) HAF.out).mono ?_
          rintro e wG ⟨rfl, n2, rfl⟩
          have hIG := below_drewN hIF n2
          have hbelG := hbel6.trans (hIG.mono hbel6.size)
          generalize wF.drewN n2 = wG at *
          clear hIF HAF
          go_wp2_with fail
          refine (HW.out _ _ _ (HA0.out.below hbelG (Nat.le_refl _))).mono ?_
          rintro e wH ⟨⟨v, rfl, hv⟩, hbH⟩
          obtain ⟨gH, cH, rfl, hAH, -, -⟩ := hv.at_ HLW.out (by omega)
          have hIH := hIG.trans (hbH.mono hIG.size)
          have HAH := Lib.hid hAH
          clear hv hAH hbH hIG hbelG
          go_wp2_with fail
          refine (HSW.out _ _ _ _ _ (HW6.out.below hIH (Nat.le_refl _)) HAH.out).mono ?_
          rintro e wI ⟨rfl, n3, rfl⟩
          have hII := below_drewN hIH n3
          have hbelI := hbel6.trans (hII.mono hbel6.size)
          generalize wH.drewN n3 = wI at *
          clear hIH HAH
          go_wp2_with fail
          refine (HF.out _ _ _ (HA1.out.below hbelI (Nat.le_refl _))).mono ?_
          rintro e wJ ⟨⟨v, rfl, hv⟩, hbJ⟩
          obtain ⟨gJ, cJ, rfl, hAJ, -, -⟩ := hv.at_ HLF.out (by omega)
          have hIJ := hII.trans (hbJ.mono hII.size)
          have HAJ := Lib.hid hAJ
          clear hv hAJ hbJ hII hbelI
          go_wp2_with fail
          refine (HSF.out _ _ _ _ _ (HF6.out.below hIJ (Nat.le_refl _)) HAJ.out).mono ?_
          rintro e wK ⟨rfl, n4, rfl⟩
          have hbelK : Below w.heap.size w (wJ.drewN n4) := hbel6.trans ((below_drewN hIJ n4).mono hbel6.size)
          go_wp2
          go_ret
          exact ⟨rfl, hbelK⟩

set_option maxHeartbeats 2000000 in
set_option maxRecDepth 100000 in
theorem keeps11 (w : World) (l : List Nat) (gl : ∀ x ∈ l, x < 256) (A0 : Option Addr) (c0 : Nat) (_hc0 : l.length ≤ c0) (_hl : l.length ≤ 140737488351232) (hA0 : At w A0 l) (m : List Nat) (gm : ∀ x ∈ m, x < 256) (A1 : Option Addr) (c1 : Nat) (_hc1 : m.length ≤ c1) (_hm : m.length ≤ 140737488351232) (hA1 : At w A1 m) (hG : EtOk w) (hT : TabOk w) :
    Calls Tryz.prog 4 #[.slice A0 l.length c0, .slice A1 m.length c1] w fun e w' => e = .returned (.bool true) ∧ Below w.heap.size w w' := by
  by_cases hall : l.length ≤ 100 ∧ m.length ≤ 100
  · exact keeps11_main l m l.length m.length rfl rfl gl gm hall.1 hall.2 A0 A1 c0 c1 w hA0 hA1 hG hT
  · have HAW := Lib.hid (fun W (hb : Below w.heap.size w W) => awake11_any W (hG.below hb (Nat.le_refl _)) (fun W' hb' => (hT.below hb).below hb'))
    generalize l.length = L0 at *
    generalize m.length = M0 at *
    have t0 : 100 < L0 ∨ (L0 ≤ 100 ∧ 100 < M0) := by omega
    clear hA0 hA1 hall _hl _hm _hc0 _hc1
    rcases t0 with t0 | ⟨t0, t1⟩
    · have h0 : 100 < (L0 : Int) := by omega
      go_enter Tryz.func4, Tryz.ntmps4
      go_wp2_with fail
      refine (HAW.out _ (Below.refl _ _)).mono ?_
      rintro e w1 ⟨rfl, hb1⟩
      go_wp2_with fail
      refine (HAW.out _ hb1).mono ?_
      rintro e w2 ⟨rfl, hb2⟩
      have hb := hb1.trans (hb2.mono hb1.size)
      go_wp2
      go_ret
      exact ⟨rfl, hb⟩
    · have h0 : (L0 : Int) ≤ 100 := by omega
      have h1 : 100 < (M0 : Int) := by omega
      go_enter Tryz.func4, Tryz.ntmps4
      go_wp2_with fail
      refine (HAW.out _ (Below.refl _ _)).mono ?_
      rintro e w1 ⟨rfl, hb1⟩
      go_wp2_with fail
      refine (HAW.out _ hb1).mono ?_
      rintro e w2 ⟨rfl, hb2⟩
      have hb := hb1.trans (hb2.mono hb1.size)
      go_wp2
      go_ret
      exact ⟨rfl, hb⟩
end Go.Proofs.YtfkjkkjimdilcaaGreatDoor
