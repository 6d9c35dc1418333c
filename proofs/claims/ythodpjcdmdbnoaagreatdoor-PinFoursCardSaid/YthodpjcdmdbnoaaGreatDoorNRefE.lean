/- The contract of lockboxref02.Encrypt. -/
import Derived.Test.YthodpjcdmdbnoaaGreatDoorNRefW4
import Derived.Test.YthodpjcdmdbnoaaGreatDoorNRefW6
import Derived.Test.YthodpjcdmdbnoaaGreatDoorNRefW8
namespace Go.Proofs.YthodpjcdmdbnoaaGreatDoor
open Go Go.RowKit Pr

theorem refWords_any (key : List Nat) (kl nr : Nat) (hk : AesK kl nr) (hl : key.length = kl) (hb : Byt key) (A : Option Addr) (cp : Nat) (w : World) (hA : At w A key) :
    Calls Tryz.prog 89 #[.slice A kl cp] w fun e w' => (∃ v, e = .returned v ∧ Own w' w.heap.size v (wordsG key)) ∧ Below w.heap.size w w' := by
 rcases hk with ⟨rfl, rfl⟩ | ⟨rfl, rfl⟩ | ⟨rfl, rfl⟩
 ·
  exact refWords16 key hl hb A cp w hA
 ·
  exact refWords24 key hl hb A cp w hA
 ·
  exact refWords32 key hl hb A cp w hA
theorem mulG_1 : ∀ x < 256, mulG 1 x = x := by decide +kernel
theorem mulR_lt (a b : Nat) : mulR a b < 256 := Nat.mod_lt _ (by omega)
theorem rows_at {E : List Nat} (hE : E.length = 16) (c r : Nat) (hc : c < 4) (hr : r < 4) : (rowsG (E.map boxG) 1).getD (4 * c + r) 0 = boxG (E.getD (4 * ((c + r) % 4) + r) 0) := by
 unfold rowsG
 rw [rangeD _ _ _ (by omega), show (4 * c + r + 4 * ((4 * c + r) % 4) * 1) % 16 = 4 * ((c + r) % 4) + r by omega, getD_of _ _ (by rw [List.length_map]; omega), List.getElem_map, getD_of _ _ (by omega)]
theorem cols_at (M : List Nat) (hb : Byt M) (c r : Nat) (hc : c < 4) (hr : r < 4) : (columnsG M mE).getD (4 * c + r) 0 = ((mulR 2 (M.getD (4 * c + r) 0) ^^^ mulR 3 (M.getD (4 * c + (r + 1) % 4) 0)) ^^^ M.getD (4 * c + (r + 2) % 4) 0) ^^^ M.getD (4 * c + (r + 3) % 4) 0 := by
 unfold columnsG
 rw [rangeD _ _ _ (by omega), colTo_four]
 have e : ∀ k, (4 * c + r) / 4 * 4 + ((4 * c + r) % 4 + k) % 4 = 4 * c + (r + k) % 4 := fun k => by omega
 rw [e, e, e, e, show 4 * c + (r + 0) % 4 = 4 * c + r by omega, (mulR_2 _ (hb.at_ _)).1, (mulR_2 _ (hb.at_ _)).2.2.1]
 have h1 := mulG_1 _ (hb.at_ (4 * c + (r + 2) % 4))
 have h2 := mulG_1 _ (hb.at_ (4 * c + (r + 3) % 4))
 show (((0 ^^^ mulG 2 _) ^^^ mulG 3 _) ^^^ mulG 1 _) ^^^ mulG 1 _ = _
 rw [h1, h2, Nat.zero_xor]

theorem ixA (c r : Nat) : (4 * (c : Int) + (r : Int)).toNat = 4 * c + r := by omega
theorem ixAb (c r : Nat) (hc : c < 4) (hr : r < 4) : 4 * (c : Int) + (r : Int) < 16 := by omega
theorem ixB (c r : Nat) : (4 * (((c : Int) + (r : Int)) % 4) + (r : Int)).toNat = 4 * ((c + r) % 4) + r := by
 have e : ((c : Int) + (r : Int)) % 4 = (((c + r) % 4 : Nat) : Int) := by simp
 rw [e]; omega
theorem ixBb (c r : Nat) (hr : r < 4) : 4 * (((c : Int) + (r : Int)) % 4) + (r : Int) < 16 := by omega
theorem ixC (c r k : Nat) : (4 * (c : Int) + ((r : Int) + (k : Int)) % 4).toNat = 4 * c + (r + k) % 4 := by
 have e : ((r : Int) + (k : Int)) % 4 = (((r + k) % 4 : Nat) : Int) := by simp
 rw [e]; omega
theorem ixCb (c r k : Nat) (hc : c < 4) : 4 * (c : Int) + ((r : Int) + (k : Int)) % 4 < 16 := by omega
theorem zero_16 : (Tryz.prog.info? 113).map (·.zero) = some (some (.agg (byteCells (List.replicate 16 0)))) := by kernel_rfl
/-- the block, the words, the boxes and the result's cell while a block is (de)ciphered -/
def AesSt2 (w : World) (gw : Nat) (ws : List Nat) (gb : Nat) (BX : List Nat) (W : World) (l : List Nat) : Prop := AesSt w gw ws W l ∧ Blk W gb 164 (byteCells BX)
theorem AesSt2.next {w W W' : World} {gw gb : Nat} {ws BX l l' : List Nat} (hs : AesSt2 w gw ws gb BX W l) (hk : Keep w.heap.size W W') (hB : Blk W' w.heap.size 113 (byteCells l')) (hg : w.heap.size + 2 ≤ gw) (hg2 : w.heap.size + 2 ≤ gb) : AesSt2 w gw ws gb BX W' l' :=
 ⟨hs.1.next hk hB hg, hs.2.keep hk (by omega)⟩
theorem AesSt2.below {w W W' : World} {gw gb : Nat} {ws BX l : List Nat} (hs : AesSt2 w gw ws gb BX W l) (hb : Below W.heap.size W W') (hne : ws ≠ []) : AesSt2 w gw ws gb BX W' l := by
 obtain ⟨⟨h1, h2, ⟨z, hz, h3⟩, h4⟩, h5⟩ := hs
 exact ⟨⟨h1.below hb h1.lt, h2.below hb (h2.lt hne), ⟨z, hz, h3.below hb h3.lt⟩, h4.trans (hb.mono h4.size)⟩, h5.below hb h5.lt⟩

set_option maxHeartbeats 8000000 in
set_option maxRecDepth 100000 in
theorem refEncrypt_any (key b : List Nat) (kl nr : Nat) (hk : AesK kl nr) (hl : key.length = kl) (hb : Byt key) (hbl : b.length = 16) (hbb : Byt b) (A : Option Addr) (cp : Nat) (w : World) (hA : At w A key) :
    Calls Tryz.prog 69 #[.slice A kl cp, .agg (byteCells b)] w fun e w' => e = .returned (.agg (byteCells (encG b (wordsG key) nr))) ∧ Below w.heap.size w w' := by
 have HW := Lib.hid (fun W hA => refWords_any key kl nr hk hl hb A cp W hA)
 obtain ⟨wl, hwl2⟩ : ∃ wl, wl = 16 * nr + 16 := ⟨_, rfl⟩
 have hwl := wordsG_len hb hk hl
 rw [← hwl2] at hwl
 have hw1 : 16 * nr + 16 ≤ wl := by omega
 have hw2 : wl ≤ 16 * nr + 16 := by omega
 clear hwl2
 have hnr := hk.nr
 have h10 : 10 ≤ nr := by omega
 have h14 : nr ≤ 14 := by omega
 have hkl4 : (kl : Int) / 4 + 6 = (nr : Int) := by omega
 have hkl0 : 16 ≤ kl := by omega
 have hkl1 : kl ≤ 32 := by omega
 have HKL4 := Lib.hid hkl4; clear hkl4
 clear hnr
 have hwb := wordsG_byt hb
 have hsz := Lib.hid (size_byteCells b)
 generalize wordsG key = ws at *
 have HWL := Lib.hid hwl; clear hwl
 have HWB := Lib.hid hwb; clear hwb
 have HWN := Lib.hid (show ws ≠ [] from fun h => by have := HWL.out; rw [h] at this; simp at this; omega)
 have HEO := Lib.hid (fun r => encTo_ok hbb HWB.out nr r)
 have HBL := Lib.hid hbl; clear hbl
 have HBB := Lib.hid hbb; clear hbb
 have hA1 : ∀ o1 o2, At ((w.alloc o1).alloc o2) A key := fun o1 o2 hne => by
  obtain ⟨b, o, e, hB⟩ := hA hne
  exact ⟨b, o, e, (hB.alloc _).alloc _⟩
 have HA1 := Lib.hid hA1; clear hA1 hA hl hb hk
 have HBX := Lib.hid (fun W => refBoxes_any W)
 obtain ⟨BX, hBX⟩ : ∃ BX, List.map boxG (List.range 256) = BX := ⟨_, rfl⟩
 have hBXl : BX.length = 256 := by rw [← hBX]; simp
 have hBXat : ∀ c, c < 256 → BX.getD c 0 = boxG c := fun c hc => by rw [← hBX]; exact rangeD _ _ _ hc
 rw [hBX] at HBX
 have HXL := Lib.hid hBXl; clear hBXl
 have HXA := Lib.hid hBXat; clear hBXat hBX
 have hbz := Lib.hid (size_byteCells BX)
 obtain ⟨cb, hcb⟩ : ∃ cb, byteCells b = cb := ⟨_, rfl⟩
 rw [hcb] at hsz ⊢
 have HCB := Lib.hid hcb; clear hcb
 go_enter Tryz.func69, Tryz.ntmps69
 go_wp2_with fail
 refine (HW.out _ (HA1.out _ _)).mono ?_
 rintro e w1 ⟨⟨v, rfl, hv⟩, hb1⟩
 obtain ⟨gw, cw, rfl, hgw, hcw, hgwl, hBw⟩ := hv.form HWN.out
 rw [HWL.out] at hcw ⊢
 have hB1 : Blk w1 w.heap.size 113 (byteCells b) := by
  rw [HCB.out]
  exact ((Blk.new w _ _).alloc _).below hb1 (by simp; omega)
 have hZ1 : ∃ z : Array Value, z.size = 16 ∧ Blk w1 (w.heap.size + 1) 113 z := ⟨_, by rfl, Blk.below (Blk.new2 w _ _ _) hb1 (by simp)⟩
 have hbel1 : Below w.heap.size w w1 := (((Below.refl _ _).alloc (Nat.le_refl _) _).alloc (by simp) _).trans (hb1.mono (by simp; omega))
 have hgw2 : w.heap.size + 2 ≤ gw := by simpa using hgw
 clear hv hb1 hgw
 have s1 : AesSt w gw ws w1 b := ⟨hB1, hBw, hZ1, hbel1⟩
 clear hB1 hBw hZ1 hbel1
 go_wp2_with fail
 refine (HBX.out _).mono ?_
 rintro e w2 ⟨rfl, hb2⟩
 go_wp2_with (first
  | (refine wpList_alloc_bytes rfl 164 rfl 256 zero_256 ?_; intro w3 hb3 hB3 hs3; have HB3 := Lib.hid hB3; have HS3 := Lib.hid hs3; clear hB3 hs3)
  | (refine wpList_store_all rfl 164 (.tmp 6) (.tmp 20) rfl w2.heap.size (byteCells BX) rfl rfl 164 _ HB3.out (by rw [info_256u8, hbz.out, HXL.out]) (by rw [hbz.out, HXL.out, size_byteCells, List.length_replicate]) (bytes_one _) ?_; intro w4 hB4 hO4))
 have hb4 : Below w1.heap.size w1 w4 := hO4.below (hb2.trans (hb3.mono hb2.size)) hb2.size
 have hgb : w.heap.size + 2 ≤ w2.heap.size := by have := hb2.size; omega
 have hgb4 : w2.heap.size < w4.heap.size := by have := hO4.size; have := HS3.out; omega
 have s2 : AesSt2 w gw ws w2.heap.size BX w4 b := by
  obtain ⟨h1, h2, ⟨z, hz, h3⟩, h4⟩ := s1
  exact ⟨⟨h1.below hb4 h1.lt, h2.below hb4 (h2.lt HWN.out), ⟨z, hz, h3.below hb4 h3.lt⟩, h4.trans (hb4.mono h4.size)⟩, hB4⟩
 generalize w2.heap.size = gb at *
 clear hb2 hb3 hO4 HB3 HS3 hB4 hb4 s1 HBX HA1 HW
 have hml := withG_len b ws 0
 have hmk : ∀ k, k < 16 → (withG b ws 0).getD k 0 = b.getD k 0 ^^^ ws.getD (16 * 0 + k) 0 := fun k hk => rangeD _ _ _ hk
 simp only [Nat.mul_zero, Nat.zero_add] at hmk
 have he0 : withG b ws 0 = encTo b ws nr 0 := rfl
 rw [he0] at hmk hml
 clear he0
 have HE0 : Hid (∀ r, encTo b ws nr (r + 1) = withG (if r + 1 < nr then columnsG (rowsG ((encTo b ws nr r).map boxG) 1) mE else rowsG ((encTo b ws nr r).map boxG) 1) ws (r + 1)) := fun _ => rfl
 have HFIN : Hid (encTo b ws nr nr = encG b ws nr) := rfl
 generalize encTo b ws nr = En at *
 have HMK := Lib.hid hmk; clear hmk
 have HML := Lib.hid hml; clear hml
 go_wp2
 go_loopw [8] (fun i wr => ∃ k : Nat, k ≤ 16 ∧ i = .int .i64 k ∧ Blk wr w.heap.size 113 (byteCells (partN (En 0) b k)) ∧ Keep w.heap.size w4 wr) (fun i _ => 16 - (intOf i).toNat)
 case atStart => exact ⟨0, by omega, rfl, by simpa [partN] using s2.1.1, Keep.refl _ _⟩
 case round =>
  obtain ⟨k, hk, rfl, hBr, hbr⟩ := hrel
  by_cases hlt : k < 16
  ·
   have hpl := partN_len (En 0) b k 16 HML.out HBL.out hk
   have hcell : wr.drew.cell? ⟨w.heap.size, k, none⟩ = some (.int .u8 (b.getD k 0 : Nat)) := by
    have := hBr.cell k
    rw [cellD _ k (by omega), partN_at (En 0) b k 16 HML.out hlt] at this
    exact this
   have hfr : wr.drew.frozen? ⟨w.heap.size, k, none⟩ = false := hBr.frozen k
   have hcy : wr.drew.cell? ⟨gw, k, none⟩ = some (.int .u8 (ws.getD k 0 : Nat)) := by
    have := (s2.1.2.1.keep hbr (by omega)).cellD k (by rw [HWL.out]; omega)
    rw [Nat.zero_add] at this
    exact this
   have hX := u8_xor_nat _ _ (HBB.out.at_ k) (HWB.out.at_ k)
   have hst := partN_set (En 0) b k 16 HML.out HBL.out hlt
   rw [HMK.out k hlt] at hst
   have hnx := hBr.set_ k (.int .u8 ((b.getD k 0 ^^^ ws.getD k 0 : Nat) : Int))
   rw [set_byteCells, hst, ← hX] at hnx
   have hnx2 : Blk (wr.drew.setCell ⟨w.heap.size, k, none⟩ (.int .u8 (bits .xor .u8 (b.getD k 0 : Nat) (ws.getD k 0 : Nat)))) w.heap.size 113 (byteCells (partN (En 0) b (k + 1))) := hnx
   have hK2 : Keep w.heap.size w4 (wr.drew.setCell ⟨w.heap.size, k, none⟩ (.int .u8 (bits .xor .u8 (b.getD k 0 : Nat) (ws.getD k 0 : Nat)))) := (hbr.drewN 1).setCell k _
   generalize b.getD k 0 = x1 at *
   generalize ws.getD k 0 = y1 at *
   have HNX := Lib.hid hnx2; clear hnx hnx2 hst hX hpl
   have HK2 := Lib.hid hK2; clear hK2 hbr hBr
   have hkI : (k : Int) < 16 := by omega
   have hkw : k < wl := by omega
   go_wp2_with fail
   go_still_tail 10, (by kernel_rfl)
   change wpList _ _ _ _ _ wr.drew
   generalize wr.drew = w8 at *
   go_wp2
   go_roundw
   case rel => exact ⟨k + 1, by omega, by go_num, HNX.out, HK2.out⟩
   case measure => simp [intOf]; omega
  ·
   obtain rfl : k = 16 := by omega
   rw [show ((16 : Nat) : Int) = 16 from rfl]
   rw [partN_end (En 0) b 16 HML.out HBL.out] at hBr
   have s3 := s2.next hbr hBr hgw2 hgb
   have hk4 := HKL4.out
   obtain ⟨w5, rfl⟩ : ∃ w5, w5 = wr := ⟨_, rfl⟩
   clear s2 hBr hbr hlt hk
   rw [hk4]
   clear hk4 HMK HML
   go_wp2
   go_loopw [9] (fun i wr => ∃ q : Nat, q ≤ nr ∧ i = .int .i64 (q + 1 : Nat) ∧ AesSt2 w gw ws gb BX wr (En q)) (fun i _ => nr + 1 - (intOf i).toNat)
   case atStart => exact ⟨0, by omega, rfl, s3⟩
   case round =>
    obtain ⟨q, hq, rfl, s4⟩ := hrel
    clear s3
    obtain ⟨hel, heb⟩ := HEO.out q
    by_cases hlt : q < nr
    ·
     have hen := HE0.out q
     have hMat := fun c r hc hr => rows_at (E := En q) hel c r hc hr
     have hMl := rowsG_len ((En q).map boxG) 1
     have hMb := rowsG_byt (box_byt heb) 1
     have hen2 : En (q + 1) = En (q + 1) := rfl
     obtain ⟨N, hN⟩ : ∃ N, En (q + 1) = N := ⟨_, rfl⟩
     rw [hN] at hen
     have HN := Lib.hid hN; clear hN hen2
     generalize En q = E at *
     generalize rowsG (E.map boxG) 1 = M at *
     have HEN := Lib.hid hen; clear hen
     have HMAT := Lib.hid hMat; clear hMat
     have HML := Lib.hid hMl; clear hMl
     have HMB := Lib.hid hMb; clear hMb
     have HEL := Lib.hid hel; clear hel
     have HEB := Lib.hid heb; clear heb
     obtain ⟨wo, rfl⟩ : ∃ wo, wo = wr := ⟨_, rfl⟩
     have hws := s4.1.2.2.2.size
     have hwlt := s4.1.1.lt
     have hgbo := s4.2.lt
     have hgwo := s4.1.2.1.lt HWN.out
     have hzl : (List.replicate 16 0).length = 16 := by rw [List.length_replicate]
     have HZL := Lib.hid hzl; clear hzl
     go_wp2_with (refine wpList_alloc_bytes rfl 113 rfl 16 zero_16 ?_; intro w6 hb6 hB6 hs6; have HB6 := Lib.hid hB6; have HS6 := Lib.hid hs6; clear hB6 hs6)
     obtain ⟨Z, hZ⟩ : ∃ Z, List.replicate 16 0 = Z := ⟨_, rfl⟩
     rw [hZ] at HB6 HZL
     clear hZ
     have s5 := s4.below hb6 HWN.out
     have hs6 := hb6.size
     go_loopw [11] (fun i wr => ∃ c : Nat, c ≤ 4 ∧ i = .int .i64 c ∧ Blk wr wo.heap.size 113 (byteCells (partN M Z (4 * c))) ∧ Keep wo.heap.size w6 wr) (fun i _ => 4 - (intOf i).toNat)
     case atStart => exact ⟨0, by omega, rfl, by simpa [partN] using HB6.out, Keep.refl _ _⟩
     case round =>
      obtain ⟨c, hc, rfl, hBr, hbr⟩ := hrel
      by_cases hlc : c < 4
      ·
       have hcI : (c : Int) < 4 := by omega
       obtain ⟨wc, rfl⟩ : ∃ wc, wc = wr := ⟨_, rfl⟩
       go_wp2
       go_loopw [12] (fun i wr => ∃ r : Nat, r ≤ 4 ∧ i = .int .i64 r ∧ Blk wr wo.heap.size 113 (byteCells (partN M Z (4 * c + r))) ∧ Keep wo.heap.size w6 wr) (fun i _ => 4 - (intOf i).toNat)
       case atStart => exact ⟨0, by omega, rfl, hBr, hbr⟩
       case round =>
        clear hBr hbr
        obtain ⟨r, hr, rfl, hBr, hbr⟩ := hrel
        by_cases hlr : r < 4
        ·
         have hrI : (r : Int) < 4 := by omega
         obtain ⟨i1, hi1⟩ : ∃ i1, 4 * c + r = i1 := ⟨_, rfl⟩
         obtain ⟨i2, hi2⟩ : ∃ i2, 4 * ((c + r) % 4) + r = i2 := ⟨_, rfl⟩
         have hi1l : i1 < 16 := by rw [← hi1]; clear hi1 hi2; omega
         have hi2l : i2 < 16 := by rw [← hi2]; clear hi1 hi2; omega
         have e1 : (4 * (c : Int) + (r : Int)).toNat = i1 := by rw [← hi1]; exact ixA c r
         have e2 : (4 * (((c : Int) + (r : Int)) % 4) + (r : Int)).toNat = i2 := by rw [← hi2]; exact ixB c r
         have e1b : 4 * (c : Int) + (r : Int) < 16 := ixAb c r hlc hlr
         have e2b : 4 * (((c : Int) + (r : Int)) % 4) + (r : Int) < 16 := ixBb c r hlr
         have hat := HMAT.out c r hlc hlr
         rw [hi1, hi2] at hat
         rw [hi1] at hBr
         have hpl := partN_len M Z i1 16 HML.out HZL.out (by omega)
         have hcell : wr.cell? ⟨w.heap.size, i2, none⟩ = some (.int .u8 (E.getD i2 0 : Nat)) := by
          have := (s5.1.1.keep hbr (by omega)).cell i2
          rw [cellD _ i2 (by rw [HEL.out]; exact hi2l)] at this
          exact this
         have hx := HEB.out.at_ i2
         have hbx : wr.cell? ⟨gb, E.getD i2 0, none⟩ = some (.int .u8 (boxG (E.getD i2 0) : Nat)) := by
          have := (s5.2.keep hbr (by omega)).cell (E.getD i2 0)
          rw [cellD _ _ (by rw [HXL.out]; exact hx), HXA.out _ hx] at this
          exact this
         have hfr : wr.frozen? ⟨wo.heap.size, i1, none⟩ = false := hBr.frozen i1
         have hc0 : wr.cell? ⟨wo.heap.size, i1, none⟩ = some (.int .u8 (Z.getD i1 0 : Nat)) := by
          have := hBr.cell i1
          rw [cellD _ i1 (by omega), partN_at M Z i1 16 HML.out hi1l] at this
          exact this
         have hst := partN_set M Z i1 16 HML.out HZL.out hi1l
         rw [hat] at hst
         have hnx := hBr.set_ i1 (.int .u8 ((boxG (E.getD i2 0) : Nat) : Int))
         rw [set_byteCells, hst] at hnx
         have hK2 := hbr.setCell i1 (.int .u8 ((boxG (E.getD i2 0) : Nat) : Int))
         rw [show i1 + 1 = 4 * c + (r + 1) by omega] at hnx
         generalize boxG (E.getD i2 0) = y1 at *
         generalize E.getD i2 0 = x1 at *
         generalize Z.getD i1 0 = z1 at *
         have HNX := Lib.hid hnx; clear hnx hst hat hpl hBr
         have HK2 := Lib.hid hK2; clear hK2 hbr
         have hxI : (x1 : Int) < 256 := by omega
         clear hi1 hi2
         go_wp2
         go_roundw
         case rel => exact ⟨r + 1, by omega, by go_num, HNX.out, HK2.out⟩
         case measure => simp [intOf]; omega
        ·
         obtain rfl : r = 4 := by omega
         rw [show 4 * c + 4 = 4 * (c + 1) by omega] at hBr
         go_wp2
         go_roundw
         case rel => exact ⟨c + 1, by omega, by go_num, hBr, hbr⟩
         case measure => simp [intOf]; omega
      ·
       obtain rfl : c = 4 := by omega
       rw [show ((4 : Nat) : Int) = 4 from rfl]
       rw [show 4 * 4 = 16 from rfl, partN_end M Z 16 HML.out HZL.out] at hBr
       have hbw : Below wo.heap.size wo wr := hbr.below hb6 (by omega) (Nat.le_refl _)
       have s6 := s4.below hbw HWN.out
       have hs7 := hbw.size
       have hs8 : wo.heap.size < wr.heap.size := hBr.lt
       clear s4 s5 hb6 HB6 hbr hbw hlc hc
       obtain ⟨w7, rfl⟩ : ∃ w7, w7 = wr := ⟨_, rfl⟩
       by_cases hl9 : q + 1 < nr
       ·
        have hen := HEN.out
        rw [if_pos hl9] at hen
        have hNl : N.length = 16 := by rw [hen]; exact withG_len _ _ _
        have hNat : ∀ k, k < 16 → N.getD k 0 = (columnsG M mE).getD k 0 ^^^ ws.getD (16 * (q + 1) + k) 0 := fun k hk => by rw [hen]; exact rangeD _ _ _ hk
        have hKat := fun c r hc hr => cols_at M HMB.out c r hc hr
        have hKl := columnsG_len M mE
        have hKb : Byt (columnsG M mE) := columnsG_byt mE_byt
        generalize columnsG M mE = K at *
        have HNL := Lib.hid hNl; clear hNl
        have HNAT := Lib.hid hNat; clear hNat
        have HKAT := Lib.hid hKat; clear hKat
        have HKL := Lib.hid hKl; clear hKl
        have HKB := Lib.hid hKb; clear hKb
        clear hen HEN HMAT
        have hsM := Lib.hid (size_byteCells M)
        have hl9i : (q : Int) + 1 < (nr : Int) := by omega
        have HB7 := Lib.hid hBr; clear hBr
        go_wp2_with (first
         | (refine wpList_load_row rfl 113 (.tmp 10) rfl wo.heap.size rfl 113 _ (0,0) _ HB7.out Tryz.underlying113 rfl (by rw [info_16u8, hsM.out, HML.out]) ?_)
         | (refine wpList_alloc_bytes rfl 113 rfl 16 zero_16 ?_; intro w8 hb8 hB8 hs8; have HB8 := Lib.hid hB8; have HS8 := Lib.hid hs8; clear hB8 hs8)
         | (refine wpList_store_all rfl 113 (.tmp 13) (.tmp 71) rfl w7.heap.size (byteCells M) rfl rfl 113 _ HB8.out (by rw [info_16u8, hsM.out, HML.out]) (by rw [hsM.out, HML.out, size_byteCells, List.length_replicate]) (bytes_one _) ?_; intro w9 hB9 hO9))
        have hb9 : Below w7.heap.size w7 w9 := hO9.below hb8 (Nat.le_refl _)
        have s7 := s6.below hb9 HWN.out
        have hs9 := hb9.size
        have hB79 := HB7.out.below hb9 (by omega)
        have HB10 := Lib.hid hB9; clear hB9 hO9 hb8 HB8 HS8
        have HB79 := Lib.hid hB79; clear hB79 HB7
        go_loopw [14] (fun i wr => ∃ c : Nat, c ≤ 4 ∧ i = .int .i64 c ∧ Blk wr wo.heap.size 113 (byteCells (partN K M (4 * c))) ∧ Keep wo.heap.size w9 wr) (fun i _ => 4 - (intOf i).toNat)
        case atStart => exact ⟨0, by omega, rfl, by simpa [partN] using HB79.out, Keep.refl _ _⟩
        case round =>
         obtain ⟨c, hc, rfl, hBr, hbr⟩ := hrel
         by_cases hlc : c < 4
         ·
          have hcI : (c : Int) < 4 := by omega
          obtain ⟨wc, rfl⟩ : ∃ wc, wc = wr := ⟨_, rfl⟩
          go_wp2
          go_loopw [15] (fun i wr => ∃ r : Nat, r ≤ 4 ∧ i = .int .i64 r ∧ Blk wr wo.heap.size 113 (byteCells (partN K M (4 * c + r))) ∧ Keep wo.heap.size w9 wr) (fun i _ => 4 - (intOf i).toNat)
          case atStart => exact ⟨0, by omega, rfl, hBr, hbr⟩
          case round =>
           clear hBr hbr
           obtain ⟨r, hr, rfl, hBr, hbr⟩ := hrel
           by_cases hlr : r < 4
           ·
            have hrI : (r : Int) < 4 := by omega
            have hat := HKAT.out c r hlc hlr
            have e0 := ixA c r
            have e1 := ixC c r 1
            have e2 := ixC c r 2
            have e3 := ixC c r 3
            have f0 := ixAb c r hlc hlr
            have f1 := ixCb c r 1 hlc
            have f2 := ixCb c r 2 hlc
            have f3 := ixCb c r 3 hlc
            rw [show ((1 : Nat) : Int) = 1 from rfl] at e1 f1
            rw [show ((2 : Nat) : Int) = 2 from rfl] at e2 f2
            rw [show ((3 : Nat) : Int) = 3 from rfl] at e3 f3
            have g0 : 4 * c + r < 16 := by clear hat e0 e1 e2 e3 f0 f1 f2 f3; omega
            have g1 : 4 * c + (r + 1) % 4 < 16 := by clear hat e0 e1 e2 e3 f0 f1 f2 f3; omega
            have g2 : 4 * c + (r + 2) % 4 < 16 := by clear hat e0 e1 e2 e3 f0 f1 f2 f3; omega
            have g3 : 4 * c + (r + 3) % 4 < 16 := by clear hat e0 e1 e2 e3 f0 f1 f2 f3; omega
            have hnext : 4 * c + (r + 1) = 4 * c + r + 1 := rfl
            obtain ⟨i0, hi0⟩ : ∃ i, 4 * c + r = i := ⟨_, rfl⟩
            obtain ⟨i1, hi1⟩ : ∃ i, 4 * c + (r + 1) % 4 = i := ⟨_, rfl⟩
            obtain ⟨i2, hi2⟩ : ∃ i, 4 * c + (r + 2) % 4 = i := ⟨_, rfl⟩
            obtain ⟨i3, hi3⟩ : ∃ i, 4 * c + (r + 3) % 4 = i := ⟨_, rfl⟩
            rw [hi0] at hat e0 g0 hBr hnext
            rw [hi1] at hat e1 g1
            rw [hi2] at hat e2 g2
            rw [hi3] at hat e3 g3
            clear hi0 hi1 hi2 hi3
            have E0h := Lib.hid e0; clear e0
            have E1h := Lib.hid e1; clear e1
            have E2h := Lib.hid e2; clear e2
            have E3h := Lib.hid e3; clear e3
            have F0h := Lib.hid f0; clear f0
            have F1h := Lib.hid f1; clear f1
            have F2h := Lib.hid f2; clear f2
            have F3h := Lib.hid f3; clear f3
            have hT := fun j (hj : j < 16) => by
             have := (HB10.out.keep hbr (by omega)).cell j
             rw [cellD _ j (by rw [HML.out]; exact hj)] at this
             exact this
            have c0 := hT i0 g0
            have c1 := hT i1 g1
            have c2 := hT i2 g2
            have c3 := hT i3 g3
            clear hT
            have hpl := partN_len K M i0 16 HKL.out HML.out (by omega)
            have hfr : wr.frozen? ⟨wo.heap.size, i0, none⟩ = false := hBr.frozen i0
            have hc0 : wr.cell? ⟨wo.heap.size, i0, none⟩ = some (.int .u8 (M.getD i0 0 : Nat)) := by
             have := hBr.cell i0
             rw [cellD _ i0 (by omega), partN_at K M i0 16 HKL.out g0] at this
             exact this
            have hst := partN_set K M i0 16 HKL.out HML.out g0
            rw [hat, ← hnext] at hst
            have b0 := HMB.out.at_ i0
            have b1 := HMB.out.at_ i1
            have b2 := HMB.out.at_ i2
            have b3 := HMB.out.at_ i3
            generalize M.getD i0 0 = x0 at *
            generalize M.getD i1 0 = x1 at *
            generalize M.getD i2 0 = x2 at *
            generalize M.getD i3 0 = x3 at *
            have HC0 := Lib.hid (fun W => mulR_any 2 x0 (by omega) b0 W)
            have HC1 := Lib.hid (fun W => mulR_any 3 x1 (by omega) b1 W)
            have m0 := mulR_lt 2 x0
            have m1 := mulR_lt 3 x1
            generalize mulR 2 x0 = p0 at *
            generalize mulR 3 x1 = p1 at *
            have q1 := u8_xor_nat p0 p1 m0 m1
            have l1 := xor_lt8 m0 m1
            have q2 := u8_xor_nat (p0 ^^^ p1) x2 l1 b2
            have l2 := xor_lt8 l1 b2
            have q3 := u8_xor_nat ((p0 ^^^ p1) ^^^ x2) x3 l2 b3
            have l3 := xor_lt8 l2 b3
            have hnx := hBr.set_ i0 (.int .u8 (((((p0 ^^^ p1) ^^^ x2) ^^^ x3 : Nat)) : Int))
            rw [set_byteCells, hst] at hnx
            have hK2 := hbr.setCell i0 (.int .u8 (((((p0 ^^^ p1) ^^^ x2) ^^^ x3 : Nat)) : Int))
            rw [← q3, ← q2, ← q1] at hnx hK2
            have HNX := Lib.hid hnx; clear hnx hst hat hpl hBr hnext
            have HK2 := Lib.hid hK2; clear hK2 hbr q1 q2 q3 l1 l2 l3
            have e0 := E0h.out
            have f0 := F0h.out
            go_wp2_with fail
            refine (HC0.out _).mono ?_
            rintro e wz ⟨rfl, rfl⟩
            clear e0 f0
            have e1 := E1h.out
            have f1 := F1h.out
            go_wp2_with fail
            refine (HC1.out _).mono ?_
            rintro e wz ⟨rfl, rfl⟩
            clear e1 f1 HC0 HC1
            have e2 := E2h.out
            have f2 := F2h.out
            have e3 := E3h.out
            have f3 := F3h.out
            have e0 := E0h.out
            have f0 := F0h.out
            go_wp2
            clear e0 e2 e3 f0 f2 f3
            go_roundw
            case rel => exact ⟨r + 1, by omega, by go_num, HNX.out, HK2.out⟩
            case measure => simp [intOf]; omega
           ·
            obtain rfl : r = 4 := by omega
            rw [show 4 * c + 4 = 4 * (c + 1) by omega] at hBr
            go_wp2
            go_roundw
            case rel => exact ⟨c + 1, by omega, by go_num, hBr, hbr⟩
            case measure => simp [intOf]; omega
         ·
          obtain rfl : c = 4 := by omega
          rw [show ((4 : Nat) : Int) = 4 from rfl]
          rw [show 4 * 4 = 16 from rfl, partN_end K M 16 HKL.out HML.out] at hBr
          have hb10 : Below wo.heap.size w7 wr := hbr.below (hb9.mono hs7) (by omega) (Nat.le_refl _)
          have s8 : AesSt2 w gw ws gb BX wr E := by
           obtain ⟨⟨h1, h2, ⟨z, hz, h3⟩, h4⟩, h5⟩ := s6
           exact ⟨⟨h1.below hb10 (by omega), h2.below hb10 hgwo, ⟨z, hz, h3.below hb10 (by omega)⟩, h4.trans (hb10.mono hws)⟩, h5.below hb10 hgbo⟩
          have hGB := hBr; clear hBr
          obtain ⟨wA, rfl⟩ : ∃ wA, wA = wr := ⟨_, rfl⟩
          clear s6 s7 hb9 hb10 hbr HB10 HB79 hlc hc
          go_wp2
          go_loopw [17] (fun i wr => ∃ k : Nat, k ≤ 16 ∧ i = .int .i64 k ∧ Blk wr w.heap.size 113 (byteCells (partN N E k)) ∧ Keep w.heap.size wA wr) (fun i _ => 16 - (intOf i).toNat)
          case atStart => exact ⟨0, by omega, rfl, by simpa [partN] using s8.1.1, Keep.refl _ _⟩
          case round =>
           obtain ⟨k, hk, rfl, hBk, hbk⟩ := hrel
           by_cases hlt : k < 16
           ·
            have hpl := partN_len N E k 16 HNL.out HEL.out hk
            have hcell : wr.drew.cell? ⟨wo.heap.size, k, none⟩ = some (.int .u8 (K.getD k 0 : Nat)) := by
             have := (hGB.keep hbk (by omega)).cell k
             rw [cellD _ k (by rw [HKL.out]; exact hlt)] at this
             exact this
            have hfr : wr.drew.frozen? ⟨w.heap.size, k, none⟩ = false := hBk.frozen k
            have hc0 : wr.drew.cell? ⟨w.heap.size, k, none⟩ = some (.int .u8 (E.getD k 0 : Nat)) := by
             have := hBk.cell k
             rw [cellD _ k (by omega), partN_at N E k 16 HNL.out hlt] at this
             exact this
            have hcy : wr.drew.cell? ⟨gw, 16 * (q + 1) + k, none⟩ = some (.int .u8 (ws.getD (16 * (q + 1) + k) 0 : Nat)) := by
             have := (s8.1.2.1.keep hbk (by omega)).cellD (16 * (q + 1) + k) (by rw [HWL.out]; omega)
             rw [Nat.zero_add] at this
             exact this
            have hX := u8_xor_nat _ _ (HKB.out.at_ k) (HWB.out.at_ (16 * (q + 1) + k))
            have hst := partN_set N E k 16 HNL.out HEL.out hlt
            rw [HNAT.out k hlt] at hst
            have hnx := hBk.set_ k (.int .u8 ((K.getD k 0 ^^^ ws.getD (16 * (q + 1) + k) 0 : Nat) : Int))
            rw [set_byteCells, hst, ← hX] at hnx
            have hnx2 : Blk (wr.drew.setCell ⟨w.heap.size, k, none⟩ (.int .u8 (bits .xor .u8 (K.getD k 0 : Nat) (ws.getD (16 * (q + 1) + k) 0 : Nat)))) w.heap.size 113 (byteCells (partN N E (k + 1))) := hnx
            have hK2 : Keep w.heap.size wA (wr.drew.setCell ⟨w.heap.size, k, none⟩ (.int .u8 (bits .xor .u8 (K.getD k 0 : Nat) (ws.getD (16 * (q + 1) + k) 0 : Nat)))) := (hbk.drewN 1).setCell k _
            generalize K.getD k 0 = x1 at *
            generalize ws.getD (16 * (q + 1) + k) 0 = y1 at *
            generalize E.getD k 0 = z1 at *
            have HNX := Lib.hid hnx2; clear hnx hnx2 hst hX hpl
            have HK2 := Lib.hid hK2; clear hK2 hbk hBk
            have hkI : (k : Int) < 16 := by omega
            obtain ⟨R, hR⟩ : ∃ R, 16 * (q + 1) = R := ⟨_, rfl⟩
            rw [hR] at hcy
            have e1 : IntKind.i64.wrap (16 * ((q : Int) + 1)) = (R : Int) := by rw [IntWalk.i64_in _ (by omega)]; omega
            have e2 : IntKind.i64.wrap ((R : Int) + (k : Int)) = ((R + k : Nat) : Int) := by rw [IntWalk.i64_in _ (by omega)]; omega
            have hRk : R + k < wl := by omega
            obtain ⟨T, hT⟩ : ∃ T, R + k = T := ⟨_, rfl⟩
            rw [hT] at hcy hRk e2
            clear hT hR
            go_wp2_with fail
            go_still_tail 13, (by kernel_rfl)
            change wpList _ _ _ _ _ wr.drew
            generalize wr.drew = w8 at *
            go_wp2
            go_roundw
            case rel => exact ⟨k + 1, by omega, by go_num, HNX.out, HK2.out⟩
            case measure => simp [intOf]; omega
           ·
            obtain rfl : k = 16 := by omega
            rw [partN_end N E 16 HNL.out HEL.out] at hBk
            have s9 := s8.next hbk hBk hgw2 hgb
            rw [← HN.out] at s9
            go_wp2
            go_roundw
            case rel => exact ⟨q + 1, by omega, by go_num, s9⟩
            case measure => simp [intOf]; omega

       ·
        have hen := HEN.out
        rw [if_neg hl9] at hen
        have hNl : N.length = 16 := by rw [hen]; exact withG_len _ _ _
        have hNat : ∀ k, k < 16 → N.getD k 0 = M.getD k 0 ^^^ ws.getD (16 * (q + 1) + k) 0 := fun k hk => by rw [hen]; exact rangeD _ _ _ hk
        have HNL := Lib.hid hNl; clear hNl
        have HNAT := Lib.hid hNat; clear hNat
        clear hen HEN HMAT
        have hGB := hBr; clear hBr
        have hl9i : ¬ (q : Int) + 1 < (nr : Int) := by omega
        go_wp2
        go_loopw [17] (fun i wr => ∃ k : Nat, k ≤ 16 ∧ i = .int .i64 k ∧ Blk wr w.heap.size 113 (byteCells (partN N E k)) ∧ Keep w.heap.size w7 wr) (fun i _ => 16 - (intOf i).toNat)
        case atStart => exact ⟨0, by omega, rfl, by simpa [partN] using s6.1.1, Keep.refl _ _⟩
        case round =>
         obtain ⟨k, hk, rfl, hBk, hbk⟩ := hrel
         by_cases hlt : k < 16
         ·
          have hpl := partN_len N E k 16 HNL.out HEL.out hk
          have hcell : wr.drew.cell? ⟨wo.heap.size, k, none⟩ = some (.int .u8 (M.getD k 0 : Nat)) := by
           have := (hGB.keep hbk (by omega)).cell k
           rw [cellD _ k (by rw [HML.out]; exact hlt)] at this
           exact this
          have hfr : wr.drew.frozen? ⟨w.heap.size, k, none⟩ = false := hBk.frozen k
          have hc0 : wr.drew.cell? ⟨w.heap.size, k, none⟩ = some (.int .u8 (E.getD k 0 : Nat)) := by
           have := hBk.cell k
           rw [cellD _ k (by omega), partN_at N E k 16 HNL.out hlt] at this
           exact this
          have hcy : wr.drew.cell? ⟨gw, 16 * (q + 1) + k, none⟩ = some (.int .u8 (ws.getD (16 * (q + 1) + k) 0 : Nat)) := by
           have := (s6.1.2.1.keep hbk (by omega)).cellD (16 * (q + 1) + k) (by rw [HWL.out]; omega)
           rw [Nat.zero_add] at this
           exact this
          have hX := u8_xor_nat _ _ (HMB.out.at_ k) (HWB.out.at_ (16 * (q + 1) + k))
          have hst := partN_set N E k 16 HNL.out HEL.out hlt
          rw [HNAT.out k hlt] at hst
          have hnx := hBk.set_ k (.int .u8 ((M.getD k 0 ^^^ ws.getD (16 * (q + 1) + k) 0 : Nat) : Int))
          rw [set_byteCells, hst, ← hX] at hnx
          have hnx2 : Blk (wr.drew.setCell ⟨w.heap.size, k, none⟩ (.int .u8 (bits .xor .u8 (M.getD k 0 : Nat) (ws.getD (16 * (q + 1) + k) 0 : Nat)))) w.heap.size 113 (byteCells (partN N E (k + 1))) := hnx
          have hK2 : Keep w.heap.size w7 (wr.drew.setCell ⟨w.heap.size, k, none⟩ (.int .u8 (bits .xor .u8 (M.getD k 0 : Nat) (ws.getD (16 * (q + 1) + k) 0 : Nat)))) := (hbk.drewN 1).setCell k _
          generalize M.getD k 0 = x1 at *
          generalize ws.getD (16 * (q + 1) + k) 0 = y1 at *
          generalize E.getD k 0 = z1 at *
          have HNX := Lib.hid hnx2; clear hnx hnx2 hst hX hpl
          have HK2 := Lib.hid hK2; clear hK2 hbk hBk
          have hkI : (k : Int) < 16 := by omega
          obtain ⟨R, hR⟩ : ∃ R, 16 * (q + 1) = R := ⟨_, rfl⟩
          rw [hR] at hcy
          have e1 : IntKind.i64.wrap (16 * ((q : Int) + 1)) = (R : Int) := by rw [IntWalk.i64_in _ (by omega)]; omega
          have e2 : IntKind.i64.wrap ((R : Int) + (k : Int)) = ((R + k : Nat) : Int) := by rw [IntWalk.i64_in _ (by omega)]; omega
          have hRk : R + k < wl := by omega
          obtain ⟨T, hT⟩ : ∃ T, R + k = T := ⟨_, rfl⟩
          rw [hT] at hcy hRk e2
          clear hT hR
          go_wp2_with fail
          go_still_tail 13, (by kernel_rfl)
          change wpList _ _ _ _ _ wr.drew
          generalize wr.drew = w8 at *
          go_wp2
          go_roundw
          case rel => exact ⟨k + 1, by omega, by go_num, HNX.out, HK2.out⟩
          case measure => simp [intOf]; omega
         ·
          obtain rfl : k = 16 := by omega
          rw [partN_end N E 16 HNL.out HEL.out] at hBk
          have s9 := s6.next hbk hBk hgw2 hgb
          rw [← HN.out] at s9
          go_wp2
          go_roundw
          case rel => exact ⟨q + 1, by omega, by go_num, s9⟩
          case measure => simp [intOf]; omega
    ·
     obtain rfl : nr = q := by omega
     rw [HFIN.out] at s4 hel
     obtain ⟨R, hR⟩ : ∃ R, encG b ws nr = R := ⟨_, rfl⟩
     rw [hR] at s4 hel
     have HR := Lib.hid hR; clear hR heb
     obtain ⟨⟨hB3, -, ⟨z, hz, hZ3⟩, hbel3⟩, -⟩ := s4
     have hez := Lib.hid (size_byteCells R)
     have HEL := Lib.hid hel; clear hel
     go_wp2_with (first
      | (refine wpList_load_row rfl 113 (.tmp 3) rfl w.heap.size rfl 113 _ (0,0) _ hB3 Tryz.underlying113 rfl (by rw [info_16u8, hez.out, HEL.out]) ?_)
      | (refine wpList_store_all rfl 113 (.tmp 4) (.tmp 140) rfl (w.heap.size + 1) (byteCells R) rfl rfl 113 _ hZ3 (by rw [info_16u8, hez.out, HEL.out]) (by rw [hez.out, HEL.out, hz]) (bytes_one _) ?_; intro w9 hB9 hO9))
     refine bodyPost_ret (v := .agg (byteCells R)) (results_cell_row rfl _ _ (w.heap.size + 1) 113 _ (0,0) _ rfl hB9 Tryz.underlying113 rfl (by rw [info_16u8, hez.out, HEL.out])) rfl ⟨by rw [HR.out], ?_⟩
     exact hO9.below hbel3 (by omega)
end Go.Proofs.YthodpjcdmdbnoaaGreatDoor
