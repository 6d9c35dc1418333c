/- The contract of lockboxref05.Decrypt. The contracts of lockboxref05.Do (deciphering) and of lockboxref06.Do (deciphering). -/
import Derived.Test.YthodpjcdmdbnoaaGreatDoorNRefE
import Derived.Test.YthodpjcdmdbnoaaGreatDoorNRX
/- The contract of lockboxref05.Decrypt. -/
namespace Go.Proofs.YthodpjcdmdbnoaaGreatDoor
open Go Go.RowKit Pr

def undoTo : Nat → List Nat
 | 0 => List.replicate 256 0
 | k + 1 => (undoTo k).set (boxG k) k
set_option maxRecDepth 100000 in
theorem undoTo_G : undoTo 256 = (List.range 256).map unboxG := by decide +kernel
theorem Only.keep2 {g : Nat} {w w' : World} (h : Only g w w') : Keep g w w' := ⟨h.os, h.tape, h.output, by have := h.size; omega, fun i _ hi => h.block i hi⟩
theorem undoTo_len : ∀ k, (undoTo k).length = 256
 | 0 => by
  unfold undoTo
  rw [List.length_replicate]
 | k + 1 => by
  unfold undoTo
  rw [List.length_set, undoTo_len k]
theorem mulR_mD : ∀ k < 4, ∀ x < 256, mulR (mD.getD k 0) x = mulG (mD.getD k 0) x := by
 intro k hk x hx
 have h := mulR_9 x hx
 rcases (by omega : k = 0 ∨ k = 1 ∨ k = 2 ∨ k = 3) with rfl | rfl | rfl | rfl
 ·
  exact h.2.2.2
 ·
  exact h.2.1
 ·
  exact h.2.2.1
 ·
  exact h.1
/-- the places that the last loops have written -/
def doneD (c r i : Nat) : Prop := (i / 4 + 4 - i % 4) % 4 < c ∨ ((i / 4 + 4 - i % 4) % 4 = c ∧ i % 4 < r)
theorem doneD_0 (i : Nat) : ¬ doneD 0 0 i := by unfold doneD; omega
theorem doneD_row {c i : Nat} (h : doneD (c + 1) 0 i) : doneD c 4 i := by unfold doneD at *; omega
theorem doneD_end {i : Nat} : doneD 4 0 i := by unfold doneD; omega
theorem doneD_step {c r i : Nat} (hi : i < 16) (h : doneD c (r + 1) i) : i = 4 * ((c + r) % 4) + r ∨ doneD c r i := by
 unfold doneD at *
 omega
theorem unrows_at (E : List Nat) (c r : Nat) (hc : c < 4) (hr : r < 4) : ((rowsG E 3).map unboxG).getD (4 * ((c + r) % 4) + r) 0 = unboxG (E.getD (4 * c + r) 0) := by
 rw [getD_of _ _ (by rw [List.length_map, rowsG_len]; omega), List.getElem_map, ← getD_of _ _ (by rw [rowsG_len]; omega)]
 unfold rowsG
 rw [rangeD _ _ _ (by omega), show (4 * ((c + r) % 4) + r + 4 * ((4 * ((c + r) % 4) + r) % 4) * 3) % 16 = 4 * c + r by omega]
theorem colsD_at (M : List Nat) (hb : Byt M) (c r : Nat) (hr : r < 4) : ∀ k, k ≤ 4 → colTo M mD (4 * c + r) k < 256 ∧ (k < 4 → colTo M mD (4 * c + r) (k + 1) = colTo M mD (4 * c + r) k ^^^ mulR (mD.getD k 0) (M.getD (4 * c + (r + k) % 4) 0)) := fun k hk => by
 refine ⟨colTo_lt mD_byt _ k, fun hk => ?_⟩
 rw [mulR_mD k hk _ (hb.at_ _)]
 show colTo M mD (4 * c + r) k ^^^ mulG (mD.getD k 0) (M.getD ((4 * c + r) / 4 * 4 + ((4 * c + r) % 4 + k) % 4) 0) = _
 rw [show (4 * c + r) / 4 * 4 + ((4 * c + r) % 4 + k) % 4 = 4 * c + (r + k) % 4 by omega]

set_option maxHeartbeats 8000000 in
set_option maxRecDepth 100000 in
theorem refDecrypt_any (key b : List Nat) (kl nr : Nat) (hk : AesK kl nr) (hl : key.length = kl) (hb : Byt key) (hbl : b.length = 16) (hbb : Byt b) (A : Option Addr) (cp : Nat) (w : World) (hA : At w A key) :
    Calls Tryz.prog 68 #[.slice A kl cp, .agg (byteCells b)] w fun e w' => e = .returned (.agg (byteCells (decG b (wordsG key) nr))) ∧ Below w.heap.size w w' := by
 have HW := Lib.hid (fun W hA => refWords_any key kl nr hk hl hb A cp W hA)
 obtain ⟨wl, hwl2⟩ : ∃ wl, wl = 16 * nr + 16 := ⟨_, rfl⟩
 have hwl := wordsG_len hb hk hl
 rw [← hwl2] at hwl
 have hw1 : 16 * nr + 16 ≤ wl := by omega
 have hw2 : wl ≤ 16 * nr + 16 := by omega
 clear hwl2
 have hnr := hk.nr
 have h10 : 10 ≤ nr := by omega
 have h14 : nr ≤ 14 := by omega
 have hkl4 : (kl : Int) / 4 + 6 = (nr : Int) := by omega
 have hkl0 : 16 ≤ kl := by omega
 have hkl1 : kl ≤ 32 := by omega
 have HKL4 := Lib.hid hkl4; clear hkl4
 clear hnr
 have hwb := wordsG_byt hb
 have hsz := Lib.hid (size_byteCells b)
 generalize wordsG key = ws at *
 have HWL := Lib.hid hwl; clear hwl
 have HWB := Lib.hid hwb; clear hwb
 have HWN := Lib.hid (show ws ≠ [] from fun h => by have := HWL.out; rw [h] at this; simp at this; omega)
 have HBL0 := hbl
 have HEO := Lib.hid (fun r => decTo_ok HBL0 hbb HWB.out nr r)
 have HBL := Lib.hid hbl; clear hbl
 have HBB := Lib.hid hbb; clear hbb
 have hA1 : ∀ o1 o2, At ((w.alloc o1).alloc o2) A key := fun o1 o2 hne => by
  obtain ⟨b, o, e, hB⟩ := hA hne
  exact ⟨b, o, e, (hB.alloc _).alloc _⟩
 have HA1 := Lib.hid hA1; clear hA1 hA hl hb hk
 have HBX := Lib.hid (fun W => refBoxes_any W)
 obtain ⟨BX, hBX⟩ : ∃ BX, List.map boxG (List.range 256) = BX := ⟨_, rfl⟩
 have hBXl : BX.length = 256 := by rw [← hBX]; simp
 have hBXat : ∀ c, c < 256 → BX.getD c 0 = boxG c := fun c hc => by rw [← hBX]; exact rangeD _ _ _ hc
 rw [hBX] at HBX
 have HXL := Lib.hid hBXl; clear hBXl
 have HXA := Lib.hid hBXat; clear hBXat hBX
 have hbz := Lib.hid (size_byteCells BX)
 obtain ⟨cb, hcb⟩ : ∃ cb, byteCells b = cb := ⟨_, rfl⟩
 rw [hcb] at hsz ⊢
 have HCB := Lib.hid hcb; clear hcb
 go_enter Tryz.func68, Tryz.ntmps68
 go_wp2_with fail
 refine (HW.out _ (HA1.out _ _)).mono ?_
 rintro e w1 ⟨⟨v, rfl, hv⟩, hb1⟩
 obtain ⟨gw, cw, rfl, hgw, hcw, hgwl, hBw⟩ := hv.form HWN.out
 rw [HWL.out] at hcw ⊢
 have hB1 : Blk w1 w.heap.size 113 (byteCells b) := by
  rw [HCB.out]
  exact ((Blk.new w _ _).alloc _).below hb1 (by simp; omega)
 have hZ1 : ∃ z : Array Value, z.size = 16 ∧ Blk w1 (w.heap.size + 1) 113 z := ⟨_, by rfl, Blk.below (Blk.new2 w _ _ _) hb1 (by simp)⟩
 have hbel1 : Below w.heap.size w w1 := (((Below.refl _ _).alloc (Nat.le_refl _) _).alloc (by simp) _).trans (hb1.mono (by simp; omega))
 have hgw2 : w.heap.size + 2 ≤ gw := by simpa using hgw
 clear hv hb1 hgw
 have s1 : AesSt w gw ws w1 b := ⟨hB1, hBw, hZ1, hbel1⟩
 clear hB1 hBw hZ1 hbel1
 go_wp2_with fail
 refine (HBX.out _).mono ?_
 rintro e w2 ⟨rfl, hb2⟩
 go_wp2_with (first
  | (refine wpList_store_all rfl 164 (.tmp 6) (.tmp 24) rfl w2.heap.size (byteCells BX) rfl rfl 164 _ HB3.out (by rw [info_256u8, hbz.out, HXL.out]) (by rw [hbz.out, HXL.out, size_byteCells, List.length_replicate]) (bytes_one _) ?_; intro w4 hB4 hO4; have hb4 : Below w1.heap.size w1 w4 := hO4.below (hb2.trans (hb3.mono hb2.size)) hb2.size; have hgb4 : w2.heap.size < w4.heap.size := (by have := hO4.size; have := HS3.out; omega); have HB4 := Lib.hid hB4; clear hB4 hO4 HB3 HS3 hb3)
  | (refine wpList_alloc_bytes rfl 164 rfl 256 zero_256 ?_; intro w3 hb3 hB3 hs3; have HB3 := Lib.hid hB3; have HS3 := Lib.hid hs3; clear hB3 hs3))
 have hgb : w.heap.size + 2 ≤ w2.heap.size := by have := hb2.size; omega
 have hb5 : Below w1.heap.size w1 w3 := hb4.trans (hb3.mono hb4.size)
 have s2 : AesSt2 w gw ws w2.heap.size BX w3 b := by
  obtain ⟨h1, h2, ⟨z, hz, h3⟩, h4⟩ := s1
  exact ⟨⟨h1.below hb5 h1.lt, h2.below hb5 (h2.lt HWN.out), ⟨z, hz, h3.below hb5 h3.lt⟩, h4.trans (hb5.mono h4.size)⟩, HB4.out.below hb3 hgb4⟩
 generalize w2.heap.size = gb at *
 have hgwu : gw < w4.heap.size := by have := s1.2.1.lt HWN.out; have := hb4.size; omega
 obtain ⟨gu, hgu⟩ : ∃ gu, w4.heap.size = gu := ⟨_, rfl⟩
 rw [hgu] at HB3 hgb4 hb3 hgwu ⊢
 have hgul := HB3.out.lt
 clear hb2 hb3 HS3 HB4 hb4 hb5 s1 HBX HA1 HW hgu
 have HU0 : Hid (undoTo 0 = List.replicate 256 0) := rfl
 have HUS : Hid (∀ k, undoTo (k + 1) = (undoTo k).set (boxG k) k) := fun _ => rfl
 have HUF := Lib.hid undoTo_G
 have HUL := Lib.hid undoTo_len
 generalize undoTo = UT at *
 rw [← HU0.out] at HB3
 go_loopw [8] (fun i wr => ∃ k : Nat, k ≤ 256 ∧ i = .int .i64 k ∧ Blk wr gu 164 (byteCells (UT k)) ∧ Keep gu w3 wr) (fun i _ => 256 - (intOf i).toNat)
 case atStart => exact ⟨0, by omega, rfl, HB3.out, Keep.refl _ _⟩
 case round =>
  obtain ⟨k, hk, rfl, hBr, hbr⟩ := hrel
  by_cases hlt : k < 256
  ·
   have hx := boxG_lt k hlt
   have hcb : wr.cell? ⟨gb, k, none⟩ = some (.int .u8 (boxG k : Nat)) := by
    have := (s2.2.keep hbr (by omega)).cell k
    rw [cellD _ _ (by rw [HXL.out]; exact hlt), HXA.out _ hlt] at this
    exact this
   have hst := HUS.out k
   generalize boxG k = x1 at *
   have hfr : wr.frozen? ⟨gu, x1, none⟩ = false := hBr.frozen x1
   have hc0 : wr.cell? ⟨gu, x1, none⟩ = some (.int .u8 ((UT k).getD x1 0 : Nat)) := by
    have := hBr.cell x1
    rw [cellD _ _ (by rw [HUL.out]; exact hx)] at this
    exact this
   have hnx := hBr.set_ x1 (.int .u8 ((k : Nat) : Int))
   rw [set_byteCells, ← hst] at hnx
   have hK2 := hbr.setCell x1 (.int .u8 ((k : Nat) : Int))
   have HNX := Lib.hid hnx; clear hnx hst hBr
   have HK2 := Lib.hid hK2; clear hK2 hbr
   generalize (UT k).getD x1 0 = z1 at *
   have hkI : (k : Int) < 256 := by omega
   have hxI : (x1 : Int) < 256 := by omega
   have hk8 : (k : Int) % 256 = (k : Int) := by omega
   go_wp2
   go_roundw
   case rel => exact ⟨k + 1, by omega, by go_num, HNX.out, HK2.out⟩
   case measure => simp [intOf]; omega
  ·
   obtain rfl : k = 256 := by omega
   rw [show ((256 : Nat) : Int) = 256 from rfl]
   rw [HUF.out] at hBr
   obtain ⟨U, hU⟩ : ∃ U, List.map unboxG (List.range 256) = U := ⟨_, rfl⟩
   have hUl : U.length = 256 := by rw [← hU]; simp
   have hUat : ∀ c, c < 256 → U.getD c 0 = unboxG c := fun c hc => by rw [← hU]; exact rangeD _ _ _ hc
   rw [hU] at hBr
   have HUUL := Lib.hid hUl
   have HUA := Lib.hid hUat
   have hgug : gb < gu := by omega
   have s3 : AesSt2 w gw ws gb BX wr b := by
    obtain ⟨⟨h1, h2, ⟨z, hz, h3⟩, h4⟩, h5⟩ := s2
    exact ⟨⟨h1.keep hbr (by omega), h2.keep hbr (by omega), ⟨z, hz, h3.keep hbr (by omega)⟩, hbr.below h4 h4.size (by omega)⟩, h5.keep hbr (by omega)⟩
   have HBU := Lib.hid hBr
   have hk4 := HKL4.out
   obtain ⟨w5, rfl⟩ : ∃ w5, w5 = wr := ⟨_, rfl⟩
   clear s2 hBr hbr hlt hk HU0 HUS HUF HUL HB3 hU hUl hUat
   have HD0 : Hid (decTo b ws nr 0 = b) := rfl
   have HDS : Hid (∀ k, decTo b ws nr (k + 1) = (rowsG (if nr - k < nr then columnsG (withG (decTo b ws nr k) ws (nr - k)) mD else withG (decTo b ws nr k) ws (nr - k)) 3).map unboxG) := fun _ => rfl
   have HFIN : Hid (withG (decTo b ws nr nr) ws 0 = decG b ws nr) := rfl
   generalize decTo b ws nr = Dn at *
   clear hk4 hgul
   go_wp2
   have hk4 := HKL4.out
   rw [hk4]
   clear hk4
   go_loopw [10] (fun i wr => ∃ q k : Nat, q + k = nr ∧ i = .int .i64 q ∧ AesSt2 w gw ws gb BX wr (Dn k) ∧ Blk wr gu 164 (byteCells U)) (fun i _ => (intOf i).toNat)
   case atStart => exact ⟨nr, 0, rfl, rfl, by rw [HD0.out]; exact s3, HBU.out⟩
   case round =>
    obtain ⟨q, k, hqk, rfl, s4, hU4⟩ := hrel
    clear s3 HBU HD0
    obtain ⟨hel, heb⟩ := HEO.out k
    by_cases hq0 : q = 0
    ·
     subst hq0
     obtain rfl : k = nr := by omega
     have hRl : (decG b ws k).length = 16 := decG_len _ _ _
     have hRat : ∀ j, j < 16 → (decG b ws k).getD j 0 = (Dn k).getD j 0 ^^^ ws.getD j 0 := fun j hj => by
      rw [← HFIN.out]
      have := rangeD (fun j => (Dn k).getD j 0 ^^^ ws.getD (16 * 0 + j) 0) 16 j hj
      rw [Nat.mul_zero, Nat.zero_add] at this
      exact this
     obtain ⟨R, hR⟩ : ∃ R, decG b ws k = R := ⟨_, rfl⟩
     rw [hR] at hRl hRat
     have HR := Lib.hid hR; clear hR
     generalize Dn k = E at *
     have HRL := Lib.hid hRl; clear hRl
     have HRAT := Lib.hid hRat; clear hRat
     have HEL := Lib.hid hel; clear hel
     have HEB := Lib.hid heb; clear heb
     obtain ⟨wo, rfl⟩ : ∃ wo, wo = wr := ⟨_, rfl⟩
     rw [show ((0 : Nat) : Int) = 0 from rfl]
     go_wp2
     go_loopw [21] (fun i wr => ∃ j : Nat, j ≤ 16 ∧ i = .int .i64 j ∧ Blk wr w.heap.size 113 (byteCells (partN R E j)) ∧ Keep w.heap.size wo wr) (fun i _ => 16 - (intOf i).toNat)
     case atStart => exact ⟨0, by omega, rfl, by simpa [partN] using s4.1.1, Keep.refl _ _⟩
     case round =>
      obtain ⟨j, hj, rfl, hBr, hbr⟩ := hrel
      by_cases hlt : j < 16
      ·
       have hpl := partN_len R E j 16 HRL.out HEL.out hj
       have hcell : wr.drew.cell? ⟨w.heap.size, j, none⟩ = some (.int .u8 (E.getD j 0 : Nat)) := by
        have := hBr.cell j
        rw [cellD _ j (by omega), partN_at R E j 16 HRL.out hlt] at this
        exact this
       have hfr : wr.drew.frozen? ⟨w.heap.size, j, none⟩ = false := hBr.frozen j
       have hcy : wr.drew.cell? ⟨gw, j, none⟩ = some (.int .u8 (ws.getD j 0 : Nat)) := by
        have := (s4.1.2.1.keep hbr (by omega)).cellD j (by rw [HWL.out]; omega)
        rw [Nat.zero_add] at this
        exact this
       have hX := u8_xor_nat _ _ (HEB.out.at_ j) (HWB.out.at_ j)
       have hst := partN_set R E j 16 HRL.out HEL.out hlt
       rw [HRAT.out j hlt] at hst
       have hnx := hBr.set_ j (.int .u8 ((E.getD j 0 ^^^ ws.getD j 0 : Nat) : Int))
       rw [set_byteCells, hst, ← hX] at hnx
       have hnx2 : Blk (wr.drew.setCell ⟨w.heap.size, j, none⟩ (.int .u8 (bits .xor .u8 (E.getD j 0 : Nat) (ws.getD j 0 : Nat)))) w.heap.size 113 (byteCells (partN R E (j + 1))) := hnx
       have hK2 : Keep w.heap.size wo (wr.drew.setCell ⟨w.heap.size, j, none⟩ (.int .u8 (bits .xor .u8 (E.getD j 0 : Nat) (ws.getD j 0 : Nat)))) := (hbr.drewN 1).setCell j _
       generalize E.getD j 0 = x1 at *
       generalize ws.getD j 0 = y1 at *
       have HNX := Lib.hid hnx2; clear hnx hnx2 hst hX hpl
       have HK2 := Lib.hid hK2; clear hK2 hbr hBr
       have hkI : (j : Int) < 16 := by omega
       have hkw : j < wl := by omega
       go_wp2_with fail
       go_still_tail 10, (by kernel_rfl)
       change wpList _ _ _ _ _ wr.drew
       generalize wr.drew = w8 at *
       go_wp2
       go_roundw
       case rel => exact ⟨j + 1, by omega, by go_num, HNX.out, HK2.out⟩
       case measure => simp [intOf]; omega
      ·
       obtain rfl : j = 16 := by omega
       rw [show ((16 : Nat) : Int) = 16 from rfl]
       rw [partN_end R E 16 HRL.out HEL.out] at hBr
       have s5 := s4.next hbr hBr hgw2 hgb
       clear s4 hbr hBr
       obtain ⟨⟨hB3, -, ⟨z, hz, hZ3⟩, hbel3⟩, -⟩ := s5
       have hez := Lib.hid (size_byteCells R)
       go_wp2_with (first
        | (refine wpList_load_row rfl 113 (.tmp 3) rfl w.heap.size rfl 113 _ (0,0) _ hB3 Tryz.underlying113 rfl (by rw [info_16u8, hez.out, HRL.out]) ?_)
        | (refine wpList_store_all rfl 113 (.tmp 4) (.tmp 139) rfl (w.heap.size + 1) (byteCells R) rfl rfl 113 _ hZ3 (by rw [info_16u8, hez.out, HRL.out]) (by rw [hez.out, HRL.out, hz]) (bytes_one _) ?_; intro w9 hB9 hO9))
       refine bodyPost_ret (v := .agg (byteCells R)) (results_cell_row rfl _ _ (w.heap.size + 1) 113 _ (0,0) _ rfl hB9 Tryz.underlying113 rfl (by rw [info_16u8, hez.out, HRL.out])) rfl ⟨by rw [HR.out], ?_⟩
       exact hO9.below hbel3 (by omega)
    ·
     have hds := HDS.out k
     rw [show nr - k = q by omega] at hds
     obtain ⟨D1, hD1⟩ : ∃ D1, Dn (k + 1) = D1 := ⟨_, rfl⟩
     rw [hD1] at hds
     have HD1 := Lib.hid hD1; clear hD1
     have hNl : (withG (Dn k) ws q).length = 16 := withG_len _ _ _
     have hNb : Byt (withG (Dn k) ws q) := withG_byt heb HWB.out q
     have hNat : ∀ j, j < 16 → (withG (Dn k) ws q).getD j 0 = (Dn k).getD j 0 ^^^ ws.getD (16 * q + j) 0 := fun j hj => rangeD _ _ _ hj
     generalize Dn k = E at *
     generalize withG E ws q = N at *
     have HDS1 := Lib.hid hds; clear hds
     have HNL := Lib.hid hNl; clear hNl
     have HNB := Lib.hid hNb; clear hNb
     have HNAT := Lib.hid hNat; clear hNat
     have HEL := Lib.hid hel; clear hel
     have HEB := Lib.hid heb; clear heb
     obtain ⟨wo, rfl⟩ : ∃ wo, wo = wr := ⟨_, rfl⟩
     have hp1 : (q : Int) ≥ 1 := by omega
     go_wp2
     go_loopw [11] (fun i wr => ∃ k : Nat, k ≤ 16 ∧ i = .int .i64 k ∧ Blk wr w.heap.size 113 (byteCells (partN N E k)) ∧ Keep w.heap.size wo wr) (fun i _ => 16 - (intOf i).toNat)
     case atStart => exact ⟨0, by omega, rfl, by simpa [partN] using s4.1.1, Keep.refl _ _⟩
     case round =>
      obtain ⟨j, hj, rfl, hBk, hbk⟩ := hrel
      by_cases hlt : j < 16
      ·
       have hpl := partN_len N E j 16 HNL.out HEL.out hj
       have hcell : wr.drew.cell? ⟨w.heap.size, j, none⟩ = some (.int .u8 (E.getD j 0 : Nat)) := by
        have := hBk.cell j
        rw [cellD _ j (by omega), partN_at N E j 16 HNL.out hlt] at this
        exact this
       have hfr : wr.drew.frozen? ⟨w.heap.size, j, none⟩ = false := hBk.frozen j
       have hcy : wr.drew.cell? ⟨gw, 16 * q + j, none⟩ = some (.int .u8 (ws.getD (16 * q + j) 0 : Nat)) := by
        have := (s4.1.2.1.keep hbk (by omega)).cellD (16 * q + j) (by rw [HWL.out]; omega)
        rw [Nat.zero_add] at this
        exact this
       have hX := u8_xor_nat _ _ (HEB.out.at_ j) (HWB.out.at_ (16 * q + j))
       have hst := partN_set N E j 16 HNL.out HEL.out hlt
       rw [HNAT.out j hlt] at hst
       have hnx := hBk.set_ j (.int .u8 ((E.getD j 0 ^^^ ws.getD (16 * q + j) 0 : Nat) : Int))
       rw [set_byteCells, hst, ← hX] at hnx
       have hnx2 : Blk (wr.drew.setCell ⟨w.heap.size, j, none⟩ (.int .u8 (bits .xor .u8 (E.getD j 0 : Nat) (ws.getD (16 * q + j) 0 : Nat)))) w.heap.size 113 (byteCells (partN N E (j + 1))) := hnx
       have hK2 : Keep w.heap.size wo (wr.drew.setCell ⟨w.heap.size, j, none⟩ (.int .u8 (bits .xor .u8 (E.getD j 0 : Nat) (ws.getD (16 * q + j) 0 : Nat)))) := (hbk.drewN 1).setCell j _
       generalize E.getD j 0 = x1 at *
       generalize ws.getD (16 * q + j) 0 = y1 at *
       have HNX := Lib.hid hnx2; clear hnx hnx2 hst hX hpl
       have HK2 := Lib.hid hK2; clear hK2 hbk hBk
       have hkI : (j : Int) < 16 := by omega
       obtain ⟨R, hR⟩ : ∃ R, 16 * q = R := ⟨_, rfl⟩
       rw [hR] at hcy
       have e1 : IntKind.i64.wrap (16 * (q : Int)) = (R : Int) := by rw [IntWalk.i64_in _ (by omega)]; omega
       have e2 : IntKind.i64.wrap ((R : Int) + (j : Int)) = ((R + j : Nat) : Int) := by rw [IntWalk.i64_in _ (by omega)]; omega
       have hRk : R + j < wl := by omega
       obtain ⟨T, hT⟩ : ∃ T, R + j = T := ⟨_, rfl⟩
       rw [hT] at hcy hRk e2
       clear hT hR
       go_wp2_with fail
       go_still_tail 13, (by kernel_rfl)
       change wpList _ _ _ _ _ wr.drew
       generalize wr.drew = w8 at *
       go_wp2
       go_roundw
       case rel => exact ⟨j + 1, by omega, by go_num, HNX.out, HK2.out⟩
       case measure => simp [intOf]; omega
      ·
       obtain rfl : j = 16 := by omega
       rw [show ((16 : Nat) : Int) = 16 from rfl]
       rw [partN_end N E 16 HNL.out HEL.out] at hBk
       have s5 := s4.next hbk hBk hgw2 hgb
       have hU5 := hU4.keep hbk (by omega)
       clear hbk hBk hlt hj s4 hU4
       obtain ⟨w6, rfl⟩ : ∃ w6, w6 = wr := ⟨_, rfl⟩
       by_cases hk0 : 0 < k
       ·
        have hds := HDS1.out
        rw [if_pos (by omega)] at hds
        clear HDS1
        have hlI : (q : Int) < (nr : Int) := by omega
        have hsN := Lib.hid (size_byteCells N)
        have hws := s5.1.2.2.2.size
        have hwlt := s5.1.1.lt
        have hgbo := s5.2.lt
        have hgwo := s5.1.2.1.lt HWN.out
        have hguo := hU5.lt
        have HBb := Lib.hid s5.1.1
        go_wp2_with (first
         | (refine wpList_load_row rfl 113 (.tmp 3) rfl w.heap.size rfl 113 _ (0,0) _ HBb.out Tryz.underlying113 rfl (by rw [info_16u8, hsN.out, HNL.out]) ?_)
         | (refine wpList_alloc_bytes rfl 113 rfl 16 zero_16 ?_; intro w8 hb8 hB8 hs8; have HB8 := Lib.hid hB8; have HS8 := Lib.hid hs8; clear hB8 hs8)
         | (refine wpList_store_all rfl 113 (.tmp 12) (.tmp 64) rfl w6.heap.size (byteCells N) rfl rfl 113 _ HB8.out (by rw [info_16u8, hsN.out, HNL.out]) (by rw [hsN.out, HNL.out, size_byteCells, List.length_replicate]) (bytes_one _) ?_; intro w9 hB9 hO9))
        have hb9 : Below w6.heap.size w6 w9 := hO9.below hb8 (Nat.le_refl _)
        have h69 := hB9.lt
        have hbM := hb9.alloc (by omega) (.cells #[.int .u8 14, .int .u8 11, .int .u8 13, .int .u8 9] 5)
        have hBT := hB9.alloc (.cells #[.int .u8 14, .int .u8 11, .int .u8 13, .int .u8 9] 5)
        have hBM : Blk (w9.alloc (.cells #[.int .u8 14, .int .u8 11, .int .u8 13, .int .u8 9] 5)) w9.heap.size 5 (byteCells mD) := Blk.new _ _ _
        generalize w9.alloc (.cells #[.int .u8 14, .int .u8 11, .int .u8 13, .int .u8 9] 5) = wM at *
        have s6 := s5.below hbM HWN.out
        have hU6 := hU5.below hbM hguo
        generalize w9.heap.size = gm at *
        have HBT := Lib.hid hBT; clear hBT
        have HBM := Lib.hid hBM; clear hBM
        clear hB9 hO9 hb9 hb8 HB8 HS8 s5 hU5 HBb
        have hKat : ∀ c r, c < 4 → r < 4 → (columnsG N mD).getD (4 * c + r) 0 = colTo N mD (4 * c + r) 4 := fun c r hc hr => rangeD (fun i => colTo N mD i 4) 16 _ (by omega)
        have hKs := fun c r hr k hk => colsD_at N HNB.out c r hr k hk
        have hKl := columnsG_len N mD
        have hKb : Byt (columnsG N mD) := columnsG_byt mD_byt
        generalize columnsG N mD = M at *
        have HKAT := Lib.hid hKat; clear hKat
        have HKS := Lib.hid hKs; clear hKs
        have HML := Lib.hid hKl; clear hKl
        have HMB := Lib.hid hKb; clear hKb
        go_loopw [14] (fun i wr => ∃ c : Nat, c ≤ 4 ∧ i = .int .i64 c ∧ Blk wr w.heap.size 113 (byteCells (partN M N (4 * c))) ∧ Keep w.heap.size wM wr) (fun i _ => 4 - (intOf i).toNat)
        case atStart => exact ⟨0, by omega, rfl, by simpa [partN] using s6.1.1, Keep.refl _ _⟩
        case round =>
         obtain ⟨c, hc, rfl, hBr, hbr⟩ := hrel
         by_cases hlc : c < 4
         ·
          have hcI : (c : Int) < 4 := by omega
          obtain ⟨wc, rfl⟩ : ∃ wc, wc = wr := ⟨_, rfl⟩
          go_wp2
          go_loopw [15] (fun i wr => ∃ r : Nat, r ≤ 4 ∧ i = .int .i64 r ∧ Blk wr w.heap.size 113 (byteCells (partN M N (4 * c + r))) ∧ Keep w.heap.size wM wr) (fun i _ => 4 - (intOf i).toNat)
          case atStart => exact ⟨0, by omega, rfl, hBr, hbr⟩
          case round =>
           clear hBr hbr
           obtain ⟨r, hr, rfl, hBr, hbr⟩ := hrel
           by_cases hlr : r < 4
           ·
            have hrI : (r : Int) < 4 := by omega
            have hcs := HKS.out c r hlr
            have hat := HKAT.out c r hlc hlr
            have h0 : colTo N mD (4 * c + r) 0 = 0 := rfl
            generalize colTo N mD (4 * c + r) = CT at *
            have HCS := Lib.hid hcs; clear hcs
            have HAT := Lib.hid hat; clear hat
            have E0 := Lib.hid (ixA c r)
            have F0 := Lib.hid (ixAb c r hlc hlr)
            have G0 : 4 * c + r < 16 := by omega
            have hnext : 4 * c + (r + 1) = 4 * c + r + 1 := rfl
            obtain ⟨i0, hi0⟩ : ∃ i, 4 * c + r = i := ⟨_, rfl⟩
            rw [hi0] at hBr HAT E0 G0 hnext
            have HNEXT := Lib.hid hnext; clear hnext
            clear hi0
            obtain ⟨wd, rfl⟩ : ∃ wd, wd = wr := ⟨_, rfl⟩
            go_wp2
            go_loopw [16, 17] (fun x i wr => ∃ j : Nat, j ≤ 4 ∧ x = .int .u8 (CT j : Nat) ∧ i = .int .i64 j ∧ Blk wr w.heap.size 113 (byteCells (partN M N i0)) ∧ Keep w.heap.size wM wr) (fun _ i _ => 4 - (intOf i).toNat)
            case atStart => exact ⟨0, by omega, by rw [h0]; rfl, rfl, hBr, hbr⟩
            case round =>
             clear hBr hbr
             obtain ⟨j, hj, rfl, rfl, hBr, hbr⟩ := hrel
             by_cases hlj : j < 4
             ·
              have hjI : (j : Int) < 4 := by omega
              obtain ⟨hct, hcn⟩ := HCS.out j hj
              have hcn := hcn hlj
              obtain ⟨s, hs⟩ : ∃ s, r + j = s := ⟨_, rfl⟩
              obtain ⟨t, ht⟩ : ∃ t, s % 4 = t := ⟨_, rfl⟩
              obtain ⟨q4, hq4⟩ : ∃ q4, 4 * c = q4 := ⟨_, rfl⟩
              obtain ⟨i1, hi1⟩ : ∃ i, q4 + t = i := ⟨_, rfl⟩
              have g1 : i1 < 16 := by omega
              have f1 : (i1 : Int) < 16 := by omega
              have e1 : IntKind.i64.wrap (4 * (c : Int)) = (q4 : Int) := by rw [IntWalk.i64_in _ (by omega)]; omega
              have e2 : IntKind.i64.wrap ((r : Int) + (j : Int)) = (s : Int) := by rw [IntWalk.i64_in _ (by omega)]; omega
              have e3 : (s : Int) % 4 = (t : Int) := by omega
              have e4 : (s : Int).tmod 4 = (t : Int) := by rw [Int.tmod_eq_emod_of_nonneg (by omega)]; exact e3
              have e5 : IntKind.i64.wrap ((q4 : Int) + (t : Int)) = (i1 : Int) := by rw [IntWalk.i64_in _ (by omega)]; omega
              rw [hs, ht, hq4, hi1] at hcn
              clear hs ht hq4 hi1
              have hcy : wr.drew.cell? ⟨w6.heap.size, i1, none⟩ = some (.int .u8 (N.getD i1 0 : Nat)) := by
               have := (HBT.out.keep hbr (by omega)).cell i1
               rw [cellD _ i1 (by rw [HNL.out]; exact g1)] at this
               exact this
              have hcm : wr.drew.cell? ⟨gm, j, none⟩ = some (.int .u8 (mD.getD j 0 : Nat)) := by
               have := (HBM.out.keep hbr (by omega)).cell j
               rw [cellD mD j hlj] at this
               exact this
              have bm := mD_byt.at_ j
              have bx := HNB.out.at_ i1
              generalize mD.getD j 0 = a1 at *
              generalize N.getD i1 0 = a2 at *
              have hCM := Lib.hid (fun W => mulR_any a1 a2 bm bx W)
              have hml := mulR_lt a1 a2
              generalize mulR a1 a2 = P at *
              have hX := u8_xor_nat (CT j) P hct hml
              rw [← hcn] at hX
              have HX := Lib.hid hX; clear hX hcn
              have hbr2 : Keep w.heap.size wM wr.drew := hbr.drewN 1
              have hBr2 : Blk wr.drew w.heap.size 113 (byteCells (partN M N i0)) := hBr
              have HB2 := Lib.hid hBr2; clear hBr2 hBr
              have HK2 := Lib.hid hbr2; clear hbr2 hbr
              go_wp2_with fail
              go_still_tail 16, (by kernel_rfl)
              still_call ((hCM.out _).mono (fun e w' h => ⟨h.1, h.2.symm⟩))
              repeat still_step
              refine wpStill_nil ?_
              change wpList _ _ _ _ _ wr.drew
              generalize wr.drew = w8 at *
              go_wp2
              go_roundw
              case rel => exact ⟨j + 1, by omega, by rw [HX.out], by go_num, HB2.out, HK2.out⟩
              case measure => simp [intOf]; omega
             ·
              obtain rfl : j = 4 := by omega
              rw [show ((4 : Nat) : Int) = 4 from rfl]
              have hpl := partN_len M N i0 16 HML.out HNL.out (by omega)
              have hfr : wr.frozen? ⟨w.heap.size, i0, none⟩ = false := hBr.frozen i0
              have hc0 : wr.cell? ⟨w.heap.size, i0, none⟩ = some (.int .u8 (N.getD i0 0 : Nat)) := by
               have := hBr.cell i0
               rw [cellD _ i0 (by omega), partN_at M N i0 16 HML.out G0] at this
               exact this
              have hst := partN_set M N i0 16 HML.out HNL.out G0
              rw [HAT.out, ← HNEXT.out] at hst
              have hnx := hBr.set_ i0 (.int .u8 ((CT 4 : Nat) : Int))
              rw [set_byteCells, hst] at hnx
              have hK2 := hbr.setCell i0 (.int .u8 ((CT 4 : Nat) : Int))
              generalize CT 4 = x4 at *
              generalize N.getD i0 0 = z1 at *
              have HNX := Lib.hid hnx; clear hnx hst hpl hBr
              have HK2 := Lib.hid hK2; clear hK2 hbr
              have e0 := E0.out
              have f0 := F0.out
              go_wp2
              clear e0 f0
              go_roundw
              case rel => exact ⟨r + 1, by omega, by go_num, HNX.out, HK2.out⟩
              case measure => simp [intOf]; omega
           ·
            obtain rfl : r = 4 := by omega
            rw [show 4 * c + 4 = 4 * (c + 1) by omega] at hBr
            go_wp2
            go_roundw
            case rel => exact ⟨c + 1, by omega, by go_num, hBr, hbr⟩
            case measure => simp [intOf]; omega
         ·
          obtain rfl : c = 4 := by omega
          rw [show ((4 : Nat) : Int) = 4 from rfl]
          rw [show 4 * 4 = 16 from rfl, partN_end M N 16 HML.out HNL.out] at hBr
          have s5 := s6.next hbr hBr hgw2 hgb
          have hU5 := hU6.keep hbr (by omega)
          clear s6 hU6 hBr hbr hlc hc HKAT HKS HBT HBM hbM
          have s6 := s5
          have hU6 := hU5
          clear s5 hU5
          obtain ⟨w7, rfl⟩ : ∃ w7, w7 = wr := ⟨_, rfl⟩
          have hval := fun c r hc hr => unrows_at M c r hc hr
          rw [← hds] at hval
          have hDl : D1.length = 16 := by rw [hds, List.length_map, rowsG_len]
          have HVAL := Lib.hid hval; clear hval
          have HDL := Lib.hid hDl; clear hDl hds
          have r1 := s6.1.2.2.2.size
          have r2 := s6.1.1.lt
          have r3 := s6.2.lt
          have r4 := s6.1.2.1.lt HWN.out
          have r5 := hU6.lt
          go_wp2_with (refine wpList_alloc_bytes rfl 113 rfl 16 zero_16 ?_; intro wA hbA hBA hsA; have HBA := Lib.hid hBA; have HSA := Lib.hid hsA; clear hBA hsA)
          have s7 := s6.below hbA HWN.out
          have hU7 := hU6.below hbA r5
          have HZ := Lib.hid (show (List.replicate 16 0).length = 16 by rw [List.length_replicate])
          obtain ⟨Z, hZ⟩ : ∃ Z, List.replicate 16 0 = Z := ⟨_, rfl⟩
          rw [hZ] at HBA HZ
          clear hZ
          go_loopw [19] (fun i wr => ∃ c : Nat, ∃ X : List Nat, c ≤ 4 ∧ i = .int .i64 c ∧ X.length = 16 ∧ (∀ i, i < 16 → doneD c 0 i → X.getD i 0 = D1.getD i 0) ∧ Blk wr w7.heap.size 113 (byteCells X) ∧ Keep w7.heap.size wA wr) (fun i _ => 4 - (intOf i).toNat)
          case atStart => exact ⟨0, Z, by omega, rfl, HZ.out, fun i _ h => absurd h (doneD_0 i), HBA.out, Keep.refl _ _⟩
          case round =>
           obtain ⟨c, X, hc, rfl, hXl, hXd, hBr, hbr⟩ := hrel
           by_cases hlc : c < 4
           ·
            have hcI : (c : Int) < 4 := by omega
            obtain ⟨wc, rfl⟩ : ∃ wc, wc = wr := ⟨_, rfl⟩
            go_wp2
            go_loopw [20] (fun i wr => ∃ r : Nat, ∃ X : List Nat, r ≤ 4 ∧ i = .int .i64 r ∧ X.length = 16 ∧ (∀ i, i < 16 → doneD c r i → X.getD i 0 = D1.getD i 0) ∧ Blk wr w7.heap.size 113 (byteCells X) ∧ Keep w7.heap.size wA wr) (fun i _ => 4 - (intOf i).toNat)
            case atStart => exact ⟨0, X, by omega, rfl, hXl, hXd, hBr, hbr⟩
            case round =>
             clear hBr hbr hXl hXd
             clear X
             obtain ⟨r, X, hr, rfl, hXl, hXd, hBr, hbr⟩ := hrel
             by_cases hlr : r < 4
             ·
              have hrI : (r : Int) < 4 := by omega
              have hat := HVAL.out c r hlc hlr
              have hnd := fun i hi => doneD_step (c := c) (r := r) (i := i) hi
              obtain ⟨i1, hi1⟩ : ∃ i1, 4 * c + r = i1 := ⟨_, rfl⟩
              obtain ⟨i2, hi2⟩ : ∃ i2, 4 * ((c + r) % 4) + r = i2 := ⟨_, rfl⟩
              have hi1l : i1 < 16 := by rw [← hi1]; clear hi1 hi2; omega
              have hi2l : i2 < 16 := by rw [← hi2]; clear hi1 hi2; omega
              have e1 : (4 * (c : Int) + (r : Int)).toNat = i1 := by rw [← hi1]; exact ixA c r
              have e2 : (4 * (((c : Int) + (r : Int)) % 4) + (r : Int)).toNat = i2 := by rw [← hi2]; exact ixB c r
              have e1b : 4 * (c : Int) + (r : Int) < 16 := ixAb c r hlc hlr
              have e2b : 4 * (((c : Int) + (r : Int)) % 4) + (r : Int) < 16 := ixBb c r hlr
              rw [hi1, hi2] at hat
              rw [hi2] at hnd
              have hcell : wr.cell? ⟨w.heap.size, i1, none⟩ = some (.int .u8 (M.getD i1 0 : Nat)) := by
               have := (s7.1.1.keep hbr (by omega)).cell i1
               rw [cellD _ i1 (by rw [HML.out]; exact hi1l)] at this
               exact this
              have hx := HMB.out.at_ i1
              have hbx : wr.cell? ⟨gu, M.getD i1 0, none⟩ = some (.int .u8 (unboxG (M.getD i1 0) : Nat)) := by
               have := (hU7.keep hbr (by omega)).cell (M.getD i1 0)
               rw [cellD _ _ (by rw [HUUL.out]; exact hx), HUA.out _ hx] at this
               exact this
              have hfr : wr.frozen? ⟨w7.heap.size, i2, none⟩ = false := hBr.frozen i2
              have hc0 : wr.cell? ⟨w7.heap.size, i2, none⟩ = some (.int .u8 (X.getD i2 0 : Nat)) := by
               have := hBr.cell i2
               rw [cellD _ i2 (by rw [hXl]; exact hi2l)] at this
               exact this
              have hnx := hBr.set_ i2 (.int .u8 ((unboxG (M.getD i1 0) : Nat) : Int))
              rw [set_byteCells] at hnx
              have hK2 := hbr.setCell i2 (.int .u8 ((unboxG (M.getD i1 0) : Nat) : Int))
              rw [← hat] at hnx hK2 hbx
              have hXn : ∀ i, i < 16 → doneD c (r + 1) i → (X.set i2 (D1.getD i2 0)).getD i 0 = D1.getD i 0 := fun i hi h => by
               by_cases he : i = i2
               ·
                subst he
                rw [getD_of _ _ (by rw [List.length_set, hXl]; exact hi), List.getElem_set_self]
               ·
                rw [← hXd i hi ((hnd i hi h).resolve_left he), getD_of _ _ (by rw [List.length_set, hXl]; exact hi), List.getElem_set_ne (fun h => he h.symm), ← getD_of _ _ (by rw [hXl]; exact hi)]
              have hXl2 : (X.set i2 (D1.getD i2 0)).length = 16 := by rw [List.length_set, hXl]
              clear hat hnd hXd hXl hBr hbr
              generalize X.set i2 (D1.getD i2 0) = Y at *
              generalize D1.getD i2 0 = y1 at *
              generalize M.getD i1 0 = x1 at *
              generalize X.getD i2 0 = z1 at *
              have HXN := Lib.hid hXn; clear hXn
              have HXL2 := Lib.hid hXl2; clear hXl2
              have HNX := Lib.hid hnx; clear hnx
              have HK2 := Lib.hid hK2; clear hK2
              have hxI : (x1 : Int) < 256 := by omega
              clear hi1 hi2
              go_wp2
              go_roundw
              case rel => exact ⟨r + 1, Y, by omega, by go_num, HXL2.out, HXN.out, HNX.out, HK2.out⟩
              case measure => simp [intOf]; omega
             ·
              obtain rfl : r = 4 := by omega
              have hXd2 : ∀ i, i < 16 → doneD (c + 1) 0 i → X.getD i 0 = D1.getD i 0 := fun i hi h => hXd i hi (doneD_row h)
              have HXD2 := Lib.hid hXd2; clear hXd2 hXd
              go_wp2
              go_roundw
              case rel => exact ⟨c + 1, X, by omega, by go_num, hXl, HXD2.out, hBr, hbr⟩
              case measure => simp [intOf]; omega
           ·
            obtain rfl : c = 4 := by omega
            rw [show ((4 : Nat) : Int) = 4 from rfl]
            obtain rfl : X = D1 := list_ext16 hXl HDL.out fun i hi => hXd i hi doneD_end
            clear hXd hXl
            have HBX2 := Lib.hid hBr; clear hBr
            have hbw : Below w7.heap.size w7 wr := hbr.below hbA (by have := hbA.size; omega) (Nat.le_refl _)
            have s8 := s6.below hbw HWN.out
            have hU8 := hU6.below hbw r5
            have hsX := Lib.hid (size_byteCells X)
            have hsM2 := Lib.hid (size_byteCells M)
            have HB8 := Lib.hid s8.1.1
            clear s6 s7 hU6 hU7 hbA HBA HSA hbr hlc hc hbw HZ
            go_wp2_with (first
             | (refine wpList_load_row rfl 113 (.tmp 18) rfl w7.heap.size rfl 113 _ (0,0) _ HBX2.out Tryz.underlying113 rfl (by rw [info_16u8, hsX.out, HDL.out]) ?_)
             | (refine wpList_store_all rfl 113 (.tmp 3) (.tmp 124) rfl w.heap.size (byteCells X) rfl rfl 113 _ HB8.out (by rw [info_16u8, hsX.out, HDL.out]) (by rw [hsX.out, HDL.out, hsM2.out, HML.out]) (bytes_one _) ?_; intro wE hBE hOE))
            have s9 := s8.next hOE.keep2 hBE hgw2 hgb
            have hU9 := hU8.keep hOE.keep2 (by omega)
            go_roundw
            case rel => exact ⟨q - 1, k + 1, by omega, by go_num, by rw [HD1.out]; exact s9, hU9⟩
            case measure => simp [intOf]; omega
       ·
        have hds := HDS1.out
        rw [if_neg (by omega)] at hds
        clear HDS1
        have hlI : ¬ (q : Int) < (nr : Int) := by omega
        obtain ⟨M, hM⟩ : ∃ M, M = N := ⟨_, rfl⟩
        rw [← hM] at hds s5 HNL HNB
        clear hM
        have s6 := s5
        have hU6 := hU5
        have HML := HNL
        have HMB := HNB
        obtain ⟨wr, rfl⟩ : ∃ wr, wr = w6 := ⟨_, rfl⟩
        clear s5 hU5 HNL HNB
        obtain ⟨w7, rfl⟩ : ∃ w7, w7 = wr := ⟨_, rfl⟩
        have hval := fun c r hc hr => unrows_at M c r hc hr
        rw [← hds] at hval
        have hDl : D1.length = 16 := by rw [hds, List.length_map, rowsG_len]
        have HVAL := Lib.hid hval; clear hval
        have HDL := Lib.hid hDl; clear hDl hds
        have r1 := s6.1.2.2.2.size
        have r2 := s6.1.1.lt
        have r3 := s6.2.lt
        have r4 := s6.1.2.1.lt HWN.out
        have r5 := hU6.lt
        go_wp2_with (refine wpList_alloc_bytes rfl 113 rfl 16 zero_16 ?_; intro wA hbA hBA hsA; have HBA := Lib.hid hBA; have HSA := Lib.hid hsA; clear hBA hsA)
        have s7 := s6.below hbA HWN.out
        have hU7 := hU6.below hbA r5
        have HZ := Lib.hid (show (List.replicate 16 0).length = 16 by rw [List.length_replicate])
        obtain ⟨Z, hZ⟩ : ∃ Z, List.replicate 16 0 = Z := ⟨_, rfl⟩
        rw [hZ] at HBA HZ
        clear hZ
        go_loopw [19] (fun i wr => ∃ c : Nat, ∃ X : List Nat, c ≤ 4 ∧ i = .int .i64 c ∧ X.length = 16 ∧ (∀ i, i < 16 → doneD c 0 i → X.getD i 0 = D1.getD i 0) ∧ Blk wr w7.heap.size 113 (byteCells X) ∧ Keep w7.heap.size wA wr) (fun i _ => 4 - (intOf i).toNat)
        case atStart => exact ⟨0, Z, by omega, rfl, HZ.out, fun i _ h => absurd h (doneD_0 i), HBA.out, Keep.refl _ _⟩
        case round =>
         obtain ⟨c, X, hc, rfl, hXl, hXd, hBr, hbr⟩ := hrel
         by_cases hlc : c < 4
         ·
          have hcI : (c : Int) < 4 := by omega
          obtain ⟨wc, rfl⟩ : ∃ wc, wc = wr := ⟨_, rfl⟩
          go_wp2
          go_loopw [20] (fun i wr => ∃ r : Nat, ∃ X : List Nat, r ≤ 4 ∧ i = .int .i64 r ∧ X.length = 16 ∧ (∀ i, i < 16 → doneD c r i → X.getD i 0 = D1.getD i 0) ∧ Blk wr w7.heap.size 113 (byteCells X) ∧ Keep w7.heap.size wA wr) (fun i _ => 4 - (intOf i).toNat)
          case atStart => exact ⟨0, X, by omega, rfl, hXl, hXd, hBr, hbr⟩
          case round =>
           clear hBr hbr hXl hXd
           clear X
           obtain ⟨r, X, hr, rfl, hXl, hXd, hBr, hbr⟩ := hrel
           by_cases hlr : r < 4
           ·
            have hrI : (r : Int) < 4 := by omega
            have hat := HVAL.out c r hlc hlr
            have hnd := fun i hi => doneD_step (c := c) (r := r) (i := i) hi
            obtain ⟨i1, hi1⟩ : ∃ i1, 4 * c + r = i1 := ⟨_, rfl⟩
            obtain ⟨i2, hi2⟩ : ∃ i2, 4 * ((c + r) % 4) + r = i2 := ⟨_, rfl⟩
            have hi1l : i1 < 16 := by rw [← hi1]; clear hi1 hi2; omega
            have hi2l : i2 < 16 := by rw [← hi2]; clear hi1 hi2; omega
            have e1 : (4 * (c : Int) + (r : Int)).toNat = i1 := by rw [← hi1]; exact ixA c r
            have e2 : (4 * (((c : Int) + (r : Int)) % 4) + (r : Int)).toNat = i2 := by rw [← hi2]; exact ixB c r
            have e1b : 4 * (c : Int) + (r : Int) < 16 := ixAb c r hlc hlr
            have e2b : 4 * (((c : Int) + (r : Int)) % 4) + (r : Int) < 16 := ixBb c r hlr
            rw [hi1, hi2] at hat
            rw [hi2] at hnd
            have hcell : wr.cell? ⟨w.heap.size, i1, none⟩ = some (.int .u8 (M.getD i1 0 : Nat)) := by
             have := (s7.1.1.keep hbr (by omega)).cell i1
             rw [cellD _ i1 (by rw [HML.out]; exact hi1l)] at this
             exact this
            have hx := HMB.out.at_ i1
            have hbx : wr.cell? ⟨gu, M.getD i1 0, none⟩ = some (.int .u8 (unboxG (M.getD i1 0) : Nat)) := by
             have := (hU7.keep hbr (by omega)).cell (M.getD i1 0)
             rw [cellD _ _ (by rw [HUUL.out]; exact hx), HUA.out _ hx] at this
             exact this
            have hfr : wr.frozen? ⟨w7.heap.size, i2, none⟩ = false := hBr.frozen i2
            have hc0 : wr.cell? ⟨w7.heap.size, i2, none⟩ = some (.int .u8 (X.getD i2 0 : Nat)) := by
             have := hBr.cell i2
             rw [cellD _ i2 (by rw [hXl]; exact hi2l)] at this
             exact this
            have hnx := hBr.set_ i2 (.int .u8 ((unboxG (M.getD i1 0) : Nat) : Int))
            rw [set_byteCells] at hnx
            have hK2 := hbr.setCell i2 (.int .u8 ((unboxG (M.getD i1 0) : Nat) : Int))
            rw [← hat] at hnx hK2 hbx
            have hXn : ∀ i, i < 16 → doneD c (r + 1) i → (X.set i2 (D1.getD i2 0)).getD i 0 = D1.getD i 0 := fun i hi h => by
             by_cases he : i = i2
             ·
              subst he
              rw [getD_of _ _ (by rw [List.length_set, hXl]; exact hi), List.getElem_set_self]
             ·
              rw [← hXd i hi ((hnd i hi h).resolve_left he), getD_of _ _ (by rw [List.length_set, hXl]; exact hi), List.getElem_set_ne (fun h => he h.symm), ← getD_of _ _ (by rw [hXl]; exact hi)]
            have hXl2 : (X.set i2 (D1.getD i2 0)).length = 16 := by rw [List.length_set, hXl]
            clear hat hnd hXd hXl hBr hbr
            generalize X.set i2 (D1.getD i2 0) = Y at *
            generalize D1.getD i2 0 = y1 at *
            generalize M.getD i1 0 = x1 at *
            generalize X.getD i2 0 = z1 at *
            have HXN := Lib.hid hXn; clear hXn
            have HXL2 := Lib.hid hXl2; clear hXl2
            have HNX := Lib.hid hnx; clear hnx
            have HK2 := Lib.hid hK2; clear hK2
            have hxI : (x1 : Int) < 256 := by omega
            clear hi1 hi2
            go_wp2
            go_roundw
            case rel => exact ⟨r + 1, Y, by omega, by go_num, HXL2.out, HXN.out, HNX.out, HK2.out⟩
            case measure => simp [intOf]; omega
           ·
            obtain rfl : r = 4 := by omega
            have hXd2 : ∀ i, i < 16 → doneD (c + 1) 0 i → X.getD i 0 = D1.getD i 0 := fun i hi h => hXd i hi (doneD_row h)
            have HXD2 := Lib.hid hXd2; clear hXd2 hXd
            go_wp2
            go_roundw
            case rel => exact ⟨c + 1, X, by omega, by go_num, hXl, HXD2.out, hBr, hbr⟩
            case measure => simp [intOf]; omega
         ·
          obtain rfl : c = 4 := by omega
          rw [show ((4 : Nat) : Int) = 4 from rfl]
          obtain rfl : X = D1 := list_ext16 hXl HDL.out fun i hi => hXd i hi doneD_end
          clear hXd hXl
          have HBX2 := Lib.hid hBr; clear hBr
          have hbw : Below w7.heap.size w7 wr := hbr.below hbA (by have := hbA.size; omega) (Nat.le_refl _)
          have s8 := s6.below hbw HWN.out
          have hU8 := hU6.below hbw r5
          have hsX := Lib.hid (size_byteCells X)
          have hsM2 := Lib.hid (size_byteCells M)
          have HB8 := Lib.hid s8.1.1
          clear s6 s7 hU6 hU7 hbA HBA HSA hbr hlc hc hbw HZ
          go_wp2_with (first
           | (refine wpList_load_row rfl 113 (.tmp 18) rfl w7.heap.size rfl 113 _ (0,0) _ HBX2.out Tryz.underlying113 rfl (by rw [info_16u8, hsX.out, HDL.out]) ?_)
           | (refine wpList_store_all rfl 113 (.tmp 3) (.tmp 124) rfl w.heap.size (byteCells X) rfl rfl 113 _ HB8.out (by rw [info_16u8, hsX.out, HDL.out]) (by rw [hsX.out, HDL.out, hsM2.out, HML.out]) (bytes_one _) ?_; intro wE hBE hOE))
          have s9 := s8.next hOE.keep2 hBE hgw2 hgb
          have hU9 := hU8.keep hOE.keep2 (by omega)
          go_roundw
          case rel => exact ⟨q - 1, k + 1, by omega, by go_num, by rw [HD1.out]; exact s9, hU9⟩
          case measure => simp [intOf]; omega
end Go.Proofs.YthodpjcdmdbnoaaGreatDoor

/- The contracts of lockboxref05.Do (deciphering) and of lockboxref06.Do (deciphering). -/
namespace Go.Proofs.YthodpjcdmdbnoaaGreatDoor
open Go Go.RowKit Pr

set_option maxHeartbeats 4000000 in
set_option maxRecDepth 100000 in
theorem refDo1d_any (key : List Nat) (kl nr : Nat) (hk : AesK kl nr) (hkl : key.length = kl) (gk : Byt key) (x : List Nat) (hx : x.length = 16) (gx : Byt x) (A B : Option Addr) (ca cb : Nat) (r0 r1 : Option Addr) (n0 n1 c0 c1 : Nat) (w : World) (hA : At w A key) (hB : At w B x) :
    Calls Tryz.prog 37 #[.int .i64 1, .slice A kl ca, .agg #[.slice r0 n0 c0, .slice r1 n1 c1], .slice B 16 cb, .bool true] w fun e w' => (∃ gv cv, e = .returned (.tuple #[.agg #[.slice r0 n0 c0, .slice r1 n1 c1], .slice (some ⟨gv, 0, none⟩) 16 cv, .bool true]) ∧ w.heap.size ≤ gv ∧ gv < w'.heap.size ∧ 16 ≤ cv ∧ Bs w' gv 0 (aesN key x true)) ∧ Below w.heap.size w w' := by
 have hq : aesN key x true = decG x (wordsG key) nr := by unfold aesN; rw [hkl, hk.nr.1]; rfl
 rw [hq]
 have HC := Lib.hid (fun A cp W hA => refDecrypt_any key x kl nr hk hkl gk hx gx A cp W hA)
 have hl := aesN_len key x true
 rw [hq] at hl
 clear hq
 generalize decG x (wordsG key) nr = T at *
 have HL := Lib.hid hl; clear hl
 have HX := Lib.hid hx
 obtain ⟨b, o, rfl, hBx⟩ := hB (by intro h; rw [h] at hx; cases hx)
 have hbl := hBx.lt (by intro h; rw [h] at hx; cases hx)
 have HA := Lib.hid (fun W (hb : Below w.heap.size w W) => hA.below hb (Nat.le_refl _))
 have HBX := Lib.hid (fun W (hb : Below w.heap.size w W) => hBx.below hb hbl)
 clear hA hB gk gx hkl hk hx hBx
 obtain ⟨cs, hcs⟩ : ∃ cs, #[Value.slice r0 n0 c0, Value.slice r1 n1 c1] = cs := ⟨_, rfl⟩
 have hcz : cs.size = 2 := by rw [← hcs]; rfl
 have hco : cs.all (·.oneCell') = true := by rw [← hcs]; simp [Value.oneCell']
 rw [hcs]
 have HCS := Lib.hid hcs; clear hcs
 have HCZ := Lib.hid hcz; clear hcz
 have HCO := Lib.hid hco; clear hco
 have hS0 : Blk ((w.alloc (.cells cs 45)).alloc (.cells #[.slice none 0 0, .slice none 0 0] 45)) w.heap.size 45 cs := (Blk.new w _ _).alloc _
 have hR0 : Blk ((w.alloc (.cells cs 45)).alloc (.cells #[.slice none 0 0, .slice none 0 0] 45)) (w.heap.size + 1) 45 #[.slice none 0 0, .slice none 0 0] := Blk.new2 w _ _ _
 have hb0 : Below w.heap.size w ((w.alloc (.cells cs 45)).alloc (.cells #[.slice none 0 0, .slice none 0 0] 45)) := ((Below.refl _ _).alloc (Nat.le_refl _) _).alloc (by simp) _
 have hz0 : ((w.alloc (.cells cs 45)).alloc (.cells #[.slice none 0 0, .slice none 0 0] 45)).heap.size = w.heap.size + 2 := by simp
 have HS0 := Lib.hid hS0; clear hS0
 have HR0 := Lib.hid hR0; clear hR0
 have HB0 := Lib.hid hb0; clear hb0
 have HZ0 := Lib.hid hz0; clear hz0
 go_enter Tryz.func37, Tryz.ntmps37
 go_wp2_with (refine wpList_alloc_bytes rfl 113 rfl 16 zero_16 ?_; intro w1 hb1 hB1 hs1; have HB1 := Lib.hid hB1; have HS1 := Lib.hid hs1; clear hB1 hs1)
 have hG : ∀ W : World, W.heap.size = w.heap.size + 2 → W.heap.size = w.heap.size + 1 + 1 := fun W h => h
 have hb1' := HB0.out.trans (hb1.mono HB0.out.size)
 have hS1 := HS0.out.below hb1 HS0.out.lt
 have hR1 := HR0.out.below hb1 HR0.out.lt
 have hB1 : Blk w1 (w.heap.size + 2) 113 (byteCells (List.replicate 16 0)) := by rw [← HZ0.out]; exact HB1.out
 clear hG hb1 HB1 HS1
 obtain ⟨Z, hZ⟩ : ∃ Z, List.replicate 16 0 = Z := ⟨_, rfl⟩
 have hZl : Z.length = 16 := by rw [← hZ, List.length_replicate]
 rw [hZ] at hB1
 have HZL := Lib.hid hZl; clear hZl hZ
 have HB1 := Lib.hid hB1; clear hB1
 have HS1 := Lib.hid hS1; clear hS1 HS0
 have HR1 := Lib.hid hR1; clear hR1 HR0
 go_loopw [14] (fun i wr => ∃ k : Nat, k ≤ 16 ∧ i = .int .i64 k ∧ Blk wr (w.heap.size + 1 + 1) 113 (byteCells (partN x Z k)) ∧ Keep (w.heap.size + 1 + 1) w1 wr) (fun i _ => 16 - (intOf i).toNat)
 case atStart => exact ⟨0, by omega, rfl, by simpa [partN] using HB1.out, Keep.refl _ _⟩
 case round =>
  obtain ⟨k, hk, rfl, hBr, hbr⟩ := hrel
  by_cases hlt : k < 16
  ·
   have hpl := partN_len x Z k 16 HX.out HZL.out hk
   have hcx : wr.cell? ⟨b, o + k, none⟩ = some (.int .u8 (x.getD k 0 : Nat)) := (HBX.out wr (hbr.below hb1' (by have := hb1'.size; omega) (by omega))).cellD k (by rw [HX.out]; exact hlt)
   have hfr : wr.frozen? ⟨w.heap.size + 1 + 1, k, none⟩ = false := hBr.frozen k
   have hc0 : wr.cell? ⟨w.heap.size + 1 + 1, k, none⟩ = some (.int .u8 (Z.getD k 0 : Nat)) := by
    have := hBr.cell k
    rw [cellD _ k (by omega), partN_at x Z k 16 HX.out hlt] at this
    exact this
   have hst := partN_set x Z k 16 HX.out HZL.out hlt
   have hnx := hBr.set_ k (.int .u8 ((x.getD k 0 : Nat) : Int))
   rw [set_byteCells, hst] at hnx
   have hK2 := hbr.setCell k (.int .u8 ((x.getD k 0 : Nat) : Int))
   generalize x.getD k 0 = x1 at *
   generalize Z.getD k 0 = z1 at *
   have HNX := Lib.hid hnx; clear hnx hst hpl hBr
   have HK2 := Lib.hid hK2; clear hK2 hbr
   have hkI : (k : Int) < 16 := by omega
   go_wp2
   go_roundw
   case rel => exact ⟨k + 1, by omega, by go_num, HNX.out, HK2.out⟩
   case measure => simp [intOf]; omega
  ·
   obtain rfl : k = 16 := by omega
   rw [show ((16 : Nat) : Int) = 16 from rfl]
   rw [partN_end x Z 16 HX.out HZL.out] at hBr
   have hb2 : Below w.heap.size w wr := hbr.below hb1' (by have := hb1'.size; omega) (by omega)
   have hS2 := HS1.out.keep hbr (by omega)
   have hR2 := HR1.out.keep hbr (by omega)
   obtain ⟨w2, rfl⟩ : ∃ w2, w2 = wr := ⟨_, rfl⟩
   clear hbr hb1' HS1 HR1 HB1
   have hsx := Lib.hid (size_byteCells x)
   have hsT := Lib.hid (size_byteCells T)
   have HBr := Lib.hid hBr; clear hBr
   go_wp2_with (first
    | (refine wpList_load_row rfl 113 (.tmp 13) rfl (w.heap.size + 1 + 1) rfl 113 _ (0,0) _ HBr.out Tryz.underlying113 rfl (by rw [info_16u8, hsx.out, HX.out]) ?_))
   refine (HC.out _ _ _ (HA.out _ hb2)).mono ?_
   rintro e w3 ⟨rfl, hb3⟩
   have hB3 := HBr.out.below hb3 HBr.out.lt
   have hS3 := hS2.below hb3 hS2.lt
   have hR3 := hR2.below hb3 hR2.lt
   have hbel3 := hb2.trans (hb3.mono hb2.size)
   clear hS2 hR2 hb2 hb3 HBr
   go_wp2_with (refine wpList_store_all rfl 113 (.tmp 13) (.tmp 45) rfl (w.heap.size + 1 + 1) (byteCells T) rfl rfl 113 _ hB3 (by rw [info_16u8, hsT.out, HL.out]) (by rw [hsT.out, HL.out, hsx.out, HX.out]) (bytes_one _) ?_; intro w4 hB4 hO4)
   have hS4 := hS3.only hO4 (by omega)
   have hR4 := hR3.only hO4 (by omega)
   have hbel4 := hO4.below hbel3 (by omega)
   clear hS3 hR3 hbel3 hO4 hB3
   refine wp_region_tree (.q 0 (.q 1 (.e [2] fun _ => .q 3 (.q 4 (.done))))) (fun W => Blk W w.heap.size 45 cs) rfl (by kernel_rfl) (fun _ _ d _ _ h => by cases d <;> exact h) ?_
   have hS := hS4.drewN 1
   have hR := hR4.drewN 1
   have hBd := hB4.drewN 1
   have hb := below_drewN hbel4 1
   change wpT _ _ _ _ _ _ (World.drewN w4 1)
   clear hS4 hR4 hB4 hbel4
   generalize (World.drewN w4 1) = w5 at *
   refine t_load_row rfl rfl 45 (.tmp 7) rfl w.heap.size rfl 45 cs hS (fun W hW => hW) _ Tryz.underlying45 rfl (by rw [info_book, HCZ.out]) ?_
   go_simp
   refine t_q rfl rfl hS (.slice (some ⟨w.heap.size + 1 + 1, 0, none⟩) 16 16) (fun W hW => by go_simp) ?_
   go_simp
   refine t_e rfl rfl fun K hK => ?_
   refine op_store_row 45 (.tmp 10) (.tmp 49) rfl (w.heap.size + 1) cs rfl rfl 45 _ hR (by rw [info_book, HCZ.out]) (by rw [HCZ.out]; rfl) HCO.out fun w6 hB6 hO6 => ?_
   have hS6 := hS.only hO6 (by omega)
   have hbel6 := hO6.below hb (by omega)
   have hT6 : Bs w6 (w.heap.size + 1 + 1) 0 T := Bs.ofBlk (hBd.only hO6 (by omega))
   have hgl : w.heap.size + 1 + 1 < w6.heap.size := by rw [hO6.size]; exact hBd.lt
   refine hK _ _ hS6 ?_
   clear hK K
   go_simp
   iterate 2 (refine t_q rfl rfl hS6 _ (fun W hW => by (go_simp; rfl)) ?_; go_simp)
   refine t_done ?_
   go_wp2
   refine bodyPost_ret (results_cell3 rfl _ _ (w.heap.size + 1) 45 _ _ rfl hB6 Tryz.underlying45 rfl (by rw [info_book, HCZ.out])) rfl ?_
   exact ⟨⟨w.heap.size + 1 + 1, 16, rfl, by omega, hgl, Nat.le_refl _, hT6⟩, hbel6⟩

end Go.Proofs.YthodpjcdmdbnoaaGreatDoor
