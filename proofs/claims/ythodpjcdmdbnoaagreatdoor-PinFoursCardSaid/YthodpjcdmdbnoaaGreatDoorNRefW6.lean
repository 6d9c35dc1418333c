/- The contract of lockboxref02.Words, of a key of 24 bytes. -/
import Derived.Test.YthodpjcdmdbnoaaGreatDoorNRM
namespace Go.Proofs.YthodpjcdmdbnoaaGreatDoor
open Go Go.RowKit Pr

set_option maxHeartbeats 8000000 in
set_option maxRecDepth 100000 in
theorem refWords24 (key : List Nat) (hl : key.length = 24) (hb : Byt key) (A : Option Addr) (cp : Nat) (w : World) (hA : At w A key) :
    Calls Tryz.prog 89 #[.slice A 24 cp] w fun e w' => (∃ v, e = .returned v ∧ Own w' w.heap.size v (wordsG key)) ∧ Below w.heap.size w w' := by
 obtain ⟨ka, ko, rfl, hK⟩ := hA (by intro h; rw [h] at hl; cases hl)
 have hkal := hK.lt (by intro h; rw [h] at hl; cases hl)
 have HOK := Lib.hid (fun n => wordsTo_ok 6 hb n)
 have HKL := Lib.hid hl; clear hl hA
 have HK := Lib.hid hK; clear hK
 have HBX := Lib.hid (fun W => refBoxes_any W)
 obtain ⟨BX, hBX⟩ : ∃ BX, List.map boxG (List.range 256) = BX := ⟨_, rfl⟩
 have hBXl : BX.length = 256 := by rw [← hBX]; simp
 have hBXat : ∀ c, c < 256 → BX.getD c 0 = boxG c := fun c hc => by rw [← hBX]; exact rangeD _ _ _ hc
 rw [hBX] at HBX
 have HXL := Lib.hid hBXl; clear hBXl
 have HXA := Lib.hid hBXat; clear hBXat hBX
 have hbz := Lib.hid (size_byteCells BX)
 go_enter Tryz.func89, Tryz.ntmps89
 go_wp2_with fail
 refine (HBX.out _).mono ?_
 rintro e w1 ⟨rfl, hb1⟩
 go_wp2_with (first
  | (refine wpList_alloc_bytes rfl 164 rfl 256 zero_256 ?_; intro w2 hb2 hB2 hs2; have HB2 := Lib.hid hB2; have HS2 := Lib.hid hs2; clear hB2 hs2)
  | (refine wpList_store_all rfl 164 (.tmp 4) (.tmp 31) rfl w1.heap.size (byteCells BX) rfl rfl 164 _ HB2.out (by rw [info_256u8, hbz.out, HXL.out]) (by rw [hbz.out, HXL.out, size_byteCells, List.length_replicate]) (bytes_one _) ?_; intro w3 hB3 hO3))
 have hs3 : w3.heap.size = w1.heap.size + 1 := by rw [hO3.size, HS2.out]
 have hbel3 : Below w.heap.size w w3 := hO3.below (hb1.trans (hb2.mono hb1.size)) hb1.size
 have hgb := hb1.size
 generalize w1.heap.size = gb at *
 clear hO3 HB2 HS2 hb1 hb2 HBX
 have HB3 := Lib.hid hB3; clear hB3
 have HK3 := Lib.hid (HK.out.below hbel3 hkal)
 have hB0 : gb + 1 ≤ w3.heap.size := by omega
 have hB1 : w3.heap.size ≤ gb + 1 := by omega
 clear hs3
 have hkal2 : ka < gb + 1 := by omega
 go_loopw [5, 6] (fun v i wr => ∃ n : Nat, n ≤ 6 ∧ i = .int .i64 n ∧ OwnW wr (gb + 1) v n (key.take (4 * n)) ∧ Below (gb + 1) w3 wr) (fun _ i _ => 6 - (intOf i).toNat)
 case atStart => exact ⟨0, by omega, rfl, OwnW.nil _ _, Below.refl _ _⟩
 case round =>
  obtain ⟨n, hn, rfl, hown, hbel⟩ := hrel
  rename_i v5
  by_cases hlt : n < 6
  ·
   have hnI : (n : Int) < 6 := by omega
   obtain ⟨m0, hm0⟩ : ∃ m, 4 * n + 0 = m := ⟨_, rfl⟩
   obtain ⟨m1, hm1⟩ : ∃ m, 4 * n + 1 = m := ⟨_, rfl⟩
   obtain ⟨m2, hm2⟩ : ∃ m, 4 * n + 2 = m := ⟨_, rfl⟩
   obtain ⟨m3, hm3⟩ : ∃ m, 4 * n + 3 = m := ⟨_, rfl⟩
   have hst : key.take (4 * (n + 1)) = key.take (4 * n) ++ [key.getD m0 0, key.getD m1 0, key.getD m2 0, key.getD m3 0] := by
    subst hm0 hm1 hm2 hm3
    exact take4 key (4 * n) (by rw [HKL.out]; omega)
   have hsz := hbel.size
   have HST := Lib.hid hst; clear hst
   have E0 := Lib.hid (show IntKind.i64.wrap (4 * (n : Int)) = (m0 : Int) by rw [IntWalk.i64_in _ (by omega)]; omega)
   have E1 := Lib.hid (show IntKind.i64.wrap ((m0 : Int) + 1) = (m1 : Int) by rw [IntWalk.i64_in _ (by omega)]; omega)
   have E2 := Lib.hid (show IntKind.i64.wrap ((m0 : Int) + 2) = (m2 : Int) by rw [IntWalk.i64_in _ (by omega)]; omega)
   have E3 := Lib.hid (show IntKind.i64.wrap ((m0 : Int) + 3) = (m3 : Int) by rw [IntWalk.i64_in _ (by omega)]; omega)
   have i0 : (m0 : Int) < 24 := by omega
   have c0 := fun W (hW : Below (gb + 1) w3 W) => (HK3.out.below hW hkal2).cellD m0 (by rw [HKL.out]; omega)
   generalize key.getD m0 0 = x0 at *
   have C0 := Lib.hid c0; clear c0
   have i1 : (m1 : Int) < 24 := by omega
   have c1 := fun W (hW : Below (gb + 1) w3 W) => (HK3.out.below hW hkal2).cellD m1 (by rw [HKL.out]; omega)
   generalize key.getD m1 0 = x1 at *
   have C1 := Lib.hid c1; clear c1
   have i2 : (m2 : Int) < 24 := by omega
   have c2 := fun W (hW : Below (gb + 1) w3 W) => (HK3.out.below hW hkal2).cellD m2 (by rw [HKL.out]; omega)
   generalize key.getD m2 0 = x2 at *
   have C2 := Lib.hid c2; clear c2
   have i3 : (m3 : Int) < 24 := by omega
   have c3 := fun W (hW : Below (gb + 1) w3 W) => (HK3.out.below hW hkal2).cellD m3 (by rw [HKL.out]; omega)
   generalize key.getD m3 0 = x3 at *
   have C3 := Lib.hid c3; clear c3
   clear hm0 hm1 hm2 hm3
   obtain ⟨L, hL⟩ : ∃ L, key.take (4 * n) = L := ⟨_, rfl⟩
   rw [hL] at hown HST
   clear hL
   go_wp2_with fail
   refine wp_region_tree (.q 0 (.q 1 (.q 2 (.q 3 (.q 4 (.q 5 (.q 6 (.q 7 (.q 8 (.q 9 (.q 10 (.q 11 (.q 12 (.q 13 (.q 14 (.q 15 (.q 16 (.q 17 (.q 18 (.q 19 (.q 20 (.q 21 (.q 22 (.q 23 (.q 24 (.e [25] fun _ => .e [26] fun _ => .q 27 (.done))))))))))))))))))))))))))) (fun W => Below (gb + 1) w3 W) rfl (by kernel_rfl) (fun _ _ d _ _ h => by cases d <;> exact h) ?_
   have hS : Below (gb + 1) w3 wr.drew := below_drewN hbel 1
   refine t_q rfl rfl hS _ (fun W hW => by (go_simp; rfl)) ?_
   go_simp
   refine t_q rfl rfl hS _ (fun W hW => by (go_simp; rfl)) ?_
   go_simp
   refine t_q rfl rfl hS _ (fun W hW => by (go_simp; rfl)) ?_
   go_simp
   refine t_q rfl rfl hS (.int .i64 (m0 : Nat)) (fun W hW => by (go_simp; exact E0.out)) ?_
   go_simp
   refine t_q rfl rfl hS (.pointer (some ⟨ka, ko + m0, none⟩)) (fun W hW => by go_simp) ?_
   go_simp
   refine t_q rfl rfl hS (.int .u8 (x0 : Nat)) (fun W hW => by (have hc := C0.out W hW; go_simp)) ?_
   go_simp
   refine t_q rfl rfl hS _ (fun W hW => by (go_simp; rfl)) ?_
   go_simp
   refine t_q rfl rfl hS _ (fun W hW => by (go_simp; rfl)) ?_
   go_simp
   refine t_q rfl rfl hS (.int .i64 (m0 : Nat)) (fun W hW => by (go_simp; exact E0.out)) ?_
   go_simp
   refine t_q rfl rfl hS (.int .i64 (m1 : Nat)) (fun W hW => by (go_simp; exact E1.out)) ?_
   go_simp
   refine t_q rfl rfl hS (.pointer (some ⟨ka, ko + m1, none⟩)) (fun W hW => by go_simp) ?_
   go_simp
   refine t_q rfl rfl hS (.int .u8 (x1 : Nat)) (fun W hW => by (have hc := C1.out W hW; go_simp)) ?_
   go_simp
   refine t_q rfl rfl hS _ (fun W hW => by (go_simp; rfl)) ?_
   go_simp
   refine t_q rfl rfl hS _ (fun W hW => by (go_simp; rfl)) ?_
   go_simp
   refine t_q rfl rfl hS (.int .i64 (m0 : Nat)) (fun W hW => by (go_simp; exact E0.out)) ?_
   go_simp
   refine t_q rfl rfl hS (.int .i64 (m2 : Nat)) (fun W hW => by (go_simp; exact E2.out)) ?_
   go_simp
   refine t_q rfl rfl hS (.pointer (some ⟨ka, ko + m2, none⟩)) (fun W hW => by go_simp) ?_
   go_simp
   refine t_q rfl rfl hS (.int .u8 (x2 : Nat)) (fun W hW => by (have hc := C2.out W hW; go_simp)) ?_
   go_simp
   refine t_q rfl rfl hS _ (fun W hW => by (go_simp; rfl)) ?_
   go_simp
   refine t_q rfl rfl hS _ (fun W hW => by (go_simp; rfl)) ?_
   go_simp
   refine t_q rfl rfl hS (.int .i64 (m0 : Nat)) (fun W hW => by (go_simp; exact E0.out)) ?_
   go_simp
   refine t_q rfl rfl hS (.int .i64 (m3 : Nat)) (fun W hW => by (go_simp; exact E3.out)) ?_
   go_simp
   refine t_q rfl rfl hS (.pointer (some ⟨ka, ko + m3, none⟩)) (fun W hW => by go_simp) ?_
   go_simp
   refine t_q rfl rfl hS (.int .u8 (x3 : Nat)) (fun W hW => by (have hc := C3.out W hW; go_simp)) ?_
   go_simp
   refine t_q rfl rfl hS _ (fun W hW => by (go_simp; rfl)) ?_
   go_simp
   refine t_e rfl rfl fun K hK => ?_
   go_simp
   refine hK _ _ (hS.alloc (by simp; omega) _) ?_
   clear hK K
   change wpT _ _ _ _ _ _ (wr.drew.alloc (.cells #[.int .u8 (x0 : Int), .int .u8 (x1 : Int), .int .u8 (x2 : Int), .int .u8 (x3 : Int)] 190))
   have hNn : Ns .u8 (wr.drew.alloc (.cells #[.int .u8 (x0 : Int), .int .u8 (x1 : Int), .int .u8 (x2 : Int), .int .u8 (x3 : Int)] 190)) wr.heap.size 0 [x0, x1, x2, x3] := Ns.ofBlk (Blk.new wr.drew 190 (byteCells [x0, x1, x2, x3]))
   have hown4 : OwnW (wr.drew.alloc (.cells #[.int .u8 (x0 : Int), .int .u8 (x1 : Int), .int .u8 (x2 : Int), .int .u8 (x3 : Int)] 190)) (gb + 1) _ n L := OwnW.below hown ((below_drewN (Below.refl wr.heap.size wr) 1).alloc (Nat.le_refl _) _) (Nat.le_refl _)
   refine t_e rfl rfl fun K hK => ?_
   refine op_append_word (.tmp 37) (.tmp 62) rfl (gb + 1) w3 _ n L rfl hown4 (hS.alloc (by simp; omega) _) (by simp; omega) wr.heap.size 0 1 [x0, x1, x2, x3] rfl rfl hNn (by omega) fun v5 w5 hown5 hbel5 hsz5 => ?_
   rw [← HST.out] at hown5
   refine hK _ _ hbel5 ?_
   clear hK K hNn hown4
   go_simp
   refine t_q rfl rfl hbel5 _ (fun W hW => by (go_simp; rfl)) ?_
   go_simp
   refine t_done ?_
   go_wp2
   go_roundw
   case rel => exact ⟨n + 1, by omega, by go_num, hown5, hbel5⟩
   case measure => simp [intOf]; omega
  ·
   obtain rfl : n = 6 := by omega
   rw [show key.take (4 * 6) = key from List.take_of_length_le (by rw [HKL.out]; decide)] at hown
   clear hlt hn
   obtain ⟨w4, rfl⟩ : ∃ w4, w4 = wr := ⟨_, rfl⟩
   rw [show ((6 : Nat) : Int) = 6 from rfl]
   go_wp2
   go_loopw [5, 7] (fun v i wr => ∃ n m : Nat, n ≤ 46 ∧ m ≤ n + 6 ∧ n + 6 ≤ m ∧ i = .int .i64 m ∧ OwnW wr (gb + 1) v m (wordsTo 6 key n).1 ∧ Below (gb + 1) w3 wr) (fun _ i _ => 52 - (intOf i).toNat)
   case atStart => exact ⟨0, 6, by omega, by omega, by omega, rfl, hown, hbel⟩
   case round =>
    clear hown hbel
    obtain ⟨n, m, hn, hm1, hm2, rfl, hown, hbel⟩ := hrel
    obtain ⟨hWl, hWb, hPl⟩ := HOK.out n
    rw [HKL.out] at hWl
    have hnx : (wordsTo 6 key (n + 1)).1 = nextW 6 (wordsTo 6 key n).1 (tailG 6 (wordsTo 6 key n).1 n (wordsTo 6 key n).2) 4 := rfl
    have hpp := wordsP 6 (by decide) key n
    rw [nextW_is 6 (by decide) (by rw [hWl]; omega)] at hnx
    by_cases hlt : n < 46
    ·
     generalize (wordsTo 6 key n).1 = W at *
     generalize (wordsTo 6 key n).2 = P at *
     have HNX := Lib.hid hnx; clear hnx
     have HPP := Lib.hid hpp; clear hpp
     obtain ⟨g, cap, rfl, hg, hgl, hcap, hNW⟩ := hown.form (by omega)
     obtain ⟨J, hJ⟩ : ∃ J, m = J + 1 := ⟨m - 1, by omega⟩
     have hBW : Bs wr g 0 W := hNW
     have hBT : Bs wr g (J * 4) (lastT W) := by
      have := hBW.sub (4 * J) 4
      rw [Nat.zero_add] at this
      rw [show J * 4 = 4 * J by omega]
      rw [show (W.drop (4 * J)).take 4 = lastT W by unfold lastT; rw [show W.length - 4 = 4 * J by omega]; exact List.take_of_length_le (by simp; omega)] at this
      exact this
     have hTl := lastT_len (w := W) (by omega)
     have hTb := lastT_byt hWb
     have hTs := Lib.hid (size_byteCells (lastT W))
     have HTB := Lib.hid hTb; clear hTb
     have HTL := Lib.hid hTl; clear hTl
     have HWB := Lib.hid hWb; clear hWb
     have HWL := Lib.hid hWl; clear hWl
     have hJ1 : (1 : Int) ≤ (m : Int) := by omega
     have eJ : ((m : Int) - 1).toNat = J := by omega
     have hmI : (m : Int) < 52 := by omega
     have HJ := Lib.hid hJ; clear hJ
     obtain ⟨wo, rfl⟩ : ∃ wo, wo = wr := ⟨_, rfl⟩
     have hmz0 : ((m : Int) % 6 == 0) = (n % 6 == 0) := by rw [Bool.eq_iff_iff, beq_iff_eq, beq_iff_eq]; omega
     have HMZ := Lib.hid hmz0; clear hmz0
     have hgG : g ≠ wo.heap.size := by omega
     by_cases h4 : n % 6 = 0
     ·
      have hmz : ((m : Int) % 6 == 0) = true := by rw [HMZ.out, beq_iff_eq]; exact h4
      have HTA := Lib.hid (tailG_A 6 W P n h4)
      have HX : Hid ((wordsTo 6 key (n + 1)).1 = W ++ xorW 6 W (tailG 6 W n P)) := HNX
      have hp1 : P = powB (n / 6) := by rw [HPP.out]; congr 1; omega
      have HP1 := Lib.hid hp1; clear hp1
      have hcc : ∀ V : World, Blk V wo.heap.size 190 (byteCells (lastT W)) → ∀ j, j < 4 → V.cell? ⟨wo.heap.size, j, none⟩ = some (.int .u8 ((lastT W).getD j 0 : Nat)) := fun V hV j hj => by
       rw [hV.cell j, cellD _ j (by rw [HTL.out]; exact hj)]
      have hUb : Byt [(lastT W).getD 1 0, (lastT W).getD 2 0, (lastT W).getD 3 0, (lastT W).getD 0 0] := fun c hc => by
       simp only [List.mem_cons, List.not_mem_nil, or_false] at hc
       rcases hc with rfl | rfl | rfl | rfl <;> exact HTB.out.at_ _
      have h4i : n = 6 * (n / 6) := by omega
      have H4 := Lib.hid h4i; clear h4i h4 HPP HNX
      go_wp2_with (first
       | (refine wpList_load_bs rfl 190 (.tmp 75) rfl g (J * 4) rfl (lastT W) hBT _ Tryz.underlying190 rfl (by rw [info_4u8, HTL.out]) ?_)
       | (refine wpList_store_all rfl 190 (.tmp 8) (.tmp 76) rfl wo.heap.size (byteCells (lastT W)) rfl rfl 190 _ (Blk.new wo _ _) (by rw [info_4u8, hTs.out, HTL.out]) (by rw [hTs.out, HTL.out]; rfl) (bytes_one _) ?_; intro w6 hB6 hO6; have y0 := hcc _ hB6 0 (by omega); have y1 := hcc _ hB6 1 (by omega); have y2 := hcc _ hB6 2 (by omega); have y3 := hcc _ hB6 3 (by omega))
       | (refine wpList_store_all rfl 190 (.tmp 8) (.tmp 89) rfl wo.heap.size (byteCells [(lastT W).getD 1 0, (lastT W).getD 2 0, (lastT W).getD 3 0, (lastT W).getD 0 0]) rfl rfl 190 _ hB6 (by rw [info_4u8]; rfl) (by rw [hTs.out, HTL.out]; rfl) (bytes_one _) ?_; intro wu hBu hOu))
      have hOw := (hO6.trans hOu)
      have hbu : Below wo.heap.size wo wu := hOw.below ((Below.refl wo.heap.size wo).alloc (Nat.le_refl _) _) (Nat.le_refl _)
      have hsu : wu.heap.size = wo.heap.size + 1 := by rw [hOw.size, World.size_alloc]
      have hownu := OwnW.below hown hbu (Nat.le_refl _)
      have hbelu := hbel.trans (hbu.mono (by have := hbel.size; omega))
      have hgbo : gb + 1 ≤ wo.heap.size := by have := hbel.size; omega
      obtain ⟨U, hU⟩ : ∃ U, [(lastT W).getD 1 0, (lastT W).getD 2 0, (lastT W).getD 3 0, (lastT W).getD 0 0] = U := ⟨_, rfl⟩
      have HUL : Hid (U.length = 4) := Lib.hid (by rw [← hU]; rfl)
      rw [hU] at hBu hUb
      have HUE := Lib.hid hU.symm; clear hU
      have HU := Lib.hid hBu; clear hBu
      have HUB := Lib.hid hUb; clear hUb
      have hsu2 : wo.heap.size < wu.heap.size := by omega
      clear hsu hbu hOw hOu hO6 hB6 y0 y1 y2 y3 hcc hown hbel hBT hBW hNW
      have hTmap : ∀ k, k < 4 → (U.map boxG).getD k 0 = boxG (U.getD k 0) := fun k hk => by
       rw [getD_of _ _ (by rw [List.length_map, HUL.out]; exact hk), getD_of _ _ (by rw [HUL.out]; exact hk), List.getElem_map]
      obtain ⟨T, hT⟩ : ∃ T, U.map boxG = T := ⟨_, rfl⟩
      have hTl : T.length = 4 := by rw [← hT, List.length_map, HUL.out]
      have hTb2 : Byt T := by rw [← hT]; exact box_byt HUB.out
      rw [hT] at hTmap
      have HTM := Lib.hid hTmap; clear hTmap
      have HTLT := Lib.hid hTl; clear hTl
      have HTBT := Lib.hid hTb2; clear hTb2
      have HTE := Lib.hid hT; clear hT
      go_loopw [9] (fun i wv => ∃ k : Nat, k ≤ 4 ∧ i = .int .i64 k ∧ Blk wv wo.heap.size 190 (byteCells (partN T U k)) ∧ Keep wo.heap.size wu wv) (fun i _ => 4 - (intOf i).toNat)
      case atStart => exact ⟨0, by omega, rfl, by simpa [partN] using HU.out, Keep.refl _ _⟩
      case round =>
       obtain ⟨k, hk, rfl, hBr, hbr⟩ := hrel
       by_cases hkl : k < 4
       ·
        have hpl := partN_len T U k 4 HTLT.out HUL.out hk
        have hfr : wr.frozen? ⟨wo.heap.size, k, none⟩ = false := hBr.frozen k
        have hcell : wr.cell? ⟨wo.heap.size, k, none⟩ = some (.int .u8 (U.getD k 0 : Nat)) := by
         have := hBr.cell k
         rw [cellD _ k (by omega), partN_at T U k 4 HTLT.out hkl] at this
         exact this
        have hx := HUB.out.at_ k
        have hbx : wr.cell? ⟨gb, U.getD k 0, none⟩ = some (.int .u8 (boxG (U.getD k 0) : Nat)) := by
         have := (((HB3.out.below hbelu (by omega))).keep hbr (by omega)).cell (U.getD k 0)
         rw [cellD _ _ (by rw [HXL.out]; exact hx), HXA.out _ hx] at this
         exact this
        have hst := partN_set T U k 4 HTLT.out HUL.out hkl
        rw [HTM.out k hkl] at hst
        have hnx := hBr.set_ k (.int .u8 ((boxG (U.getD k 0) : Nat) : Int))
        rw [set_byteCells, hst] at hnx
        have hK2 := hbr.setCell k (.int .u8 ((boxG (U.getD k 0) : Nat) : Int))
        generalize boxG (U.getD k 0) = y1 at *
        generalize U.getD k 0 = x1 at *
        have HNX2 := Lib.hid hnx; clear hnx hst hpl hBr
        have HK2 := Lib.hid hK2; clear hK2 hbr
        have hkI : (k : Int) < 4 := by omega
        have hxI : (x1 : Int) < 256 := by omega
        go_wp2
        go_roundw
        case rel => exact ⟨k + 1, by omega, by go_num, HNX2.out, HK2.out⟩
        case measure => simp [intOf]; omega
       ·
        obtain rfl : k = 4 := by omega
        rw [show ((4 : Nat) : Int) = 4 from rfl]
        rw [partN_end T U 4 HTLT.out HUL.out] at hBr
        obtain ⟨wt, rfl⟩ : ∃ wt, wt = wr := ⟨_, rfl⟩
        have hownt := hownu.keep hbr (fun e => hgG (by injection e))
        have hbelt : Below (gb + 1) w3 wt := hbr.below hbelu (by have := hbelu.size; omega) (by omega)
        have hst : wo.heap.size < wt.heap.size := by have := hbr.size; omega
        have HT := Lib.hid hBr; clear hBr
        clear HU HUL HUB hownu hbelu hbr HTM hkl hk
        obtain ⟨q, hq⟩ : ∃ q, n / 6 = q := ⟨_, rfl⟩
        have hqm : (m : Int) / 6 = (q : Int) + 1 := by have := H4.out; omega
        have HQM := Lib.hid hqm; clear hqm
        rw [hq] at HP1
        clear hq
        have HPL := Lib.hid powB_lt
        have HPM := Lib.hid powB_mul
        have hp0 : powB 0 = 1 := rfl
        have HP0 := Lib.hid hp0; clear hp0
        generalize powB = pb at *
        go_wp2
        go_loop [10, 11] (fun p k => ∃ j : Nat, j ≤ q ∧ k = .int .i64 (j + 1 : Nat) ∧ p = .int .u8 (pb j : Nat)) (fun _ k => q + 1 - (intOf k).toNat)
        case atStart => exact ⟨0, by omega, rfl, by rw [HP0.out]; rfl⟩
        case round =>
         obtain ⟨j, hj, rfl, rfl⟩ := hrel
         have hqm := HQM.out
         by_cases hjq : j < q
         ·
          have t1 : (j : Int) + 1 < (m : Int) / 6 := by omega
          have HC := Lib.hid (fun W => mulR_any (pb j) 2 (HPL.out j) (by omega) W)
          rw [HPM.out] at HC
          have hpl := HPL.out j
          clear hqm
          go_wp2_with fail
          refine (HC.out _).mono ?_
          rintro e wz ⟨rfl, rfl⟩
          go_wp2
          go_round
          case rel => exact ⟨j + 1, by omega, by go_num, rfl⟩
          case measure => simp [intOf]; omega
         ·
          obtain rfl : j = q := by omega
          rw [← HP1.out]
          have t1 : (m : Int) / 6 ≤ (j : Int) + 1 := by omega
          clear hqm hjq hj HQM HPL HPM HP0 HP1
          have hc0 : wt.cell? ⟨wo.heap.size, 0, none⟩ = some (.int .u8 (T.getD 0 0 : Nat)) := by
           have := HT.out.cell 0
           rw [cellD _ 0 (by rw [HTLT.out]; omega)] at this
           exact this
          have hf0 : wt.frozen? ⟨wo.heap.size, 0, none⟩ = false := HT.out.frozen 0
          have h00 := HTBT.out.at_ 0
          have hxx := u8_xor_nat (T.getD 0 0) P h00 hPl
          have hnx := HT.out.set_ 0 (.int .u8 ((T.getD 0 0 ^^^ P : Nat) : Int))
          rw [set_byteCells] at hnx
          have hkt : Keep wo.heap.size wt (wt.setCell ⟨wo.heap.size, 0, none⟩ (.int .u8 ((T.getD 0 0 ^^^ P : Nat) : Int))) := (Keep.refl _ _).setCell 0 _
          have hT2l : (T.set 0 (T.getD 0 0 ^^^ P)).length = 4 := by rw [List.length_set, HTLT.out]
          obtain ⟨T2, hT2⟩ : ∃ T2, T.set 0 (T.getD 0 0 ^^^ P) = T2 := ⟨_, rfl⟩
          have hTX : tailG 6 W n P = T2 := by
           rw [HTA.out, ← hT2, ← HTE.out, HUE.out]
           rfl
          have hT2b : Byt T2 := by rw [← hTX]; exact tailG_byt 6 HWB.out n hPl
          rw [hTX] at HX
          rw [hT2] at hnx hT2l
          rw [← hxx] at hnx hkt
          generalize T.getD 0 0 = x0 at *
          have HT3 := Lib.hid hnx; clear hnx
          have HKT := Lib.hid hkt; clear hkt
          have HTL3 := Lib.hid hT2l; clear hT2l
          have HTB3 := Lib.hid hT2b; clear hT2b
          have HXX := Lib.hid hxx; clear hxx
          clear HTE hTX hT2 HTLT HTBT
          go_wp2
          have hownx := hownt.keep HKT.out (fun e => hgG (by injection e))
          have hbelx : Below (gb + 1) w3 _ := HKT.out.below hbelt (by have := hbelt.size; omega) (by omega)
          have hsx := HKT.out.size
          have hsx2 : wo.heap.size < _ := Nat.lt_of_lt_of_le hst hsx
          clear HT hownt hbelt hsx HKT
          generalize wt.setCell ⟨wo.heap.size, 0, none⟩ (.int .u8 (bits .xor .u8 (x0 : Int) (P : Int))) = wx at *
          have hXl := xorW_len 6 W T2
          have hXat := fun k hk => xorW_at 6 W T2 k hk
          rw [HWL.out, show 24 + 4 * n - 4 * 6 = n * 4 by omega] at hXat
          obtain ⟨X, hX⟩ : ∃ X, xorW 6 W T2 = X := ⟨_, rfl⟩
          rw [hX] at hXl hXat HX
          have HXL2 := Lib.hid hXl; clear hXl
          have HXAT := Lib.hid hXat; clear hXat hX
          obtain ⟨g2, cap2, eg, -, -, -, hNWt⟩ := hownx.form (by omega)
          injection eg with eg1 eg2 eg3
          injection eg1 with eg1
          injection eg1 with eg4
          subst eg4
          clear eg2 eg3
          have HBWT2 : Hid (Bs wx g 0 W) := Lib.hid hNWt
          clear hNWt
          go_loopw [12] (fun i wv => ∃ k : Nat, k ≤ 4 ∧ i = .int .i64 k ∧ Blk wv wo.heap.size 190 (byteCells (partN X T2 k)) ∧ Keep wo.heap.size wx wv) (fun i _ => 4 - (intOf i).toNat)
          case atStart => exact ⟨0, by omega, rfl, by simpa [partN] using HT3.out, Keep.refl _ _⟩
          case round =>
           obtain ⟨k, hk, rfl, hBr, hbr⟩ := hrel
           by_cases hkl : k < 4
           ·
            have hpl := partN_len X T2 k 4 HXL2.out HTL3.out hk
            have hfr : wr.drew.frozen? ⟨wo.heap.size, k, none⟩ = false := hBr.frozen k
            have hcell : wr.drew.cell? ⟨wo.heap.size, k, none⟩ = some (.int .u8 (T2.getD k 0 : Nat)) := by
             have := hBr.cell k
             rw [cellD _ k (by omega), partN_at X T2 k 4 HXL2.out hkl] at this
             exact this
            have hcw : wr.drew.cell? ⟨g, n * 4 + k, none⟩ = some (.int .u8 (W.getD (n * 4 + k) 0 : Nat)) := by
             have := (HBWT2.out.keep hbr hgG).cellD (n * 4 + k) (by rw [HWL.out]; omega)
             rw [Nat.zero_add] at this
             exact this
            have hxx := u8_xor_nat (T2.getD k 0) (W.getD (n * 4 + k) 0) (HTB3.out.at_ k) (HWB.out.at_ _)
            have hst := partN_set X T2 k 4 HXL2.out HTL3.out hkl
            rw [HXAT.out k hkl] at hst
            have hnx := hBr.set_ k (.int .u8 ((T2.getD k 0 ^^^ W.getD (n * 4 + k) 0 : Nat) : Int))
            rw [set_byteCells, hst, ← hxx] at hnx
            have hK2 : Keep wo.heap.size wx (wr.drew.setCell ⟨wo.heap.size, k, none⟩ (.int .u8 (bits .xor .u8 (T2.getD k 0 : Nat) (W.getD (n * 4 + k) 0 : Nat)))) := (hbr.drewN 1).setCell k _
            have hnx2 : Blk (wr.drew.setCell ⟨wo.heap.size, k, none⟩ (.int .u8 (bits .xor .u8 (T2.getD k 0 : Nat) (W.getD (n * 4 + k) 0 : Nat)))) wo.heap.size 190 (byteCells (partN X T2 (k + 1))) := hnx
            generalize T2.getD k 0 = x1 at *
            generalize W.getD (n * 4 + k) 0 = y1 at *
            have HNX2 := Lib.hid hnx2; clear hnx2 hnx hst hpl hBr hxx
            have HK2 := Lib.hid hK2; clear hK2 hbr
            have hkI : (k : Int) < 4 := by omega
            have e1 : IntKind.i64.wrap ((m : Int) - 6) = (n : Int) := by rw [IntWalk.i64_in _ (by omega)]; omega
            have hnm : (n : Int) < (m : Int) := by omega
            go_wp2_with fail
            go_still_tail 14, (by kernel_rfl)
            change wpList _ _ _ _ _ wr.drew
            generalize wr.drew = w8 at *
            go_wp2
            go_roundw
            case rel => exact ⟨k + 1, by omega, by go_num, HNX2.out, HK2.out⟩
            case measure => simp [intOf]; omega
           ·
            obtain rfl : k = 4 := by omega
            rw [show ((4 : Nat) : Int) = 4 from rfl]
            rw [partN_end X T2 4 HXL2.out HTL3.out] at hBr
            have howny := hownx.keep hbr (fun e => hgG (by injection e))
            have hbely : Below (gb + 1) w3 wr := hbr.below hbelx (by have := hbelx.size; omega) (by omega)
            obtain ⟨a0, a1, a2, a3, rfl⟩ : ∃ a0 a1 a2 a3, X = [a0, a1, a2, a3] := by
             have := HXL2.out
             match X, this with
             | [a0, a1, a2, a3], _ => exact ⟨a0, a1, a2, a3, rfl⟩
            have hB4 : Blk wr wo.heap.size 190 #[.int .u8 (a0 : Int), .int .u8 (a1 : Int), .int .u8 (a2 : Int), .int .u8 (a3 : Int)] := hBr
            have q0 : wr.cell? ⟨wo.heap.size, 0, none⟩ = some (.int .u8 (a0 : Int)) := hB4.cell 0
            have q1 : wr.cell? ⟨wo.heap.size, 1, none⟩ = some (.int .u8 (a1 : Int)) := hB4.cell 1
            have q2 : wr.cell? ⟨wo.heap.size, 2, none⟩ = some (.int .u8 (a2 : Int)) := hB4.cell 2
            have q3 : wr.cell? ⟨wo.heap.size, 3, none⟩ = some (.int .u8 (a3 : Int)) := hB4.cell 3
            obtain ⟨wy, rfl⟩ : ∃ wy, wy = wr := ⟨_, rfl⟩
            have hszy := hbely.size
            have HOWY := Lib.hid (OwnW.below howny ((Below.refl wy.heap.size wy).alloc (Nat.le_refl _) (.cells #[.int .u8 (a0 : Int), .int .u8 (a1 : Int), .int .u8 (a2 : Int), .int .u8 (a3 : Int)] 190)) (Nat.le_refl _))
            have HNY := Lib.hid (Ns.ofBlk (Blk.new wy 190 (byteCells [a0, a1, a2, a3])))
            have HBY := Lib.hid (hbely.alloc (by omega) (.cells #[.int .u8 (a0 : Int), .int .u8 (a1 : Int), .int .u8 (a2 : Int), .int .u8 (a3 : Int)] 190))
            clear howny hbely hbr hBr hB4
            go_wp2_with (at_builtin; go_loud (refine wpList_append_word rfl (.tmp 150) (.tmp 152) rfl (gb + 1) w3 _ m W rfl HOWY.out HBY.out (by simp; omega) wy.heap.size 0 1 [a0, a1, a2, a3] rfl rfl HNY.out (by omega) ?_); intro v9 w9 hown9 hbel9 hsz9)
            rw [← HX.out] at hown9
            have HO9 := Lib.hid hown9; clear hown9
            go_wp2
            go_roundw
            case rel => exact ⟨n + 1, m + 1, by omega, by omega, by omega, by go_num, HO9.out, hbel9⟩
            case measure => simp [intOf]; omega
     ·
      have hmz : ((m : Int) % 6 == 0) = false := by rw [HMZ.out, beq_eq_false_iff_ne]; exact h4
      have HTA := Lib.hid (tailG_C 6 W P n h4 (fun h => absurd h.1 (by decide)))
      have HX : Hid ((wordsTo 6 key (n + 1)).1 = W ++ xorW 6 W (tailG 6 W n P)) := HNX
      rw [HTA.out] at HX
      clear h4 HPP HNX HTA
      go_wp2_with (first
       | (refine wpList_load_bs rfl 190 (.tmp 75) rfl g (J * 4) rfl (lastT W) hBT _ Tryz.underlying190 rfl (by rw [info_4u8, HTL.out]) ?_)
       | (refine wpList_store_all rfl 190 (.tmp 8) (.tmp 76) rfl wo.heap.size (byteCells (lastT W)) rfl rfl 190 _ (Blk.new wo _ _) (by rw [info_4u8, hTs.out, HTL.out]) (by rw [hTs.out, HTL.out]; rfl) (bytes_one _) ?_; intro wu hBu hOw))
      have hbu : Below wo.heap.size wo wu := hOw.below ((Below.refl wo.heap.size wo).alloc (Nat.le_refl _) _) (Nat.le_refl _)
      have hsu : wu.heap.size = wo.heap.size + 1 := by rw [hOw.size, World.size_alloc]
      have hownu := OwnW.below hown hbu (Nat.le_refl _)
      have hbelu := hbel.trans (hbu.mono (by have := hbel.size; omega))
      have hgbo : gb + 1 ≤ wo.heap.size := by have := hbel.size; omega
      obtain ⟨T, hT⟩ : ∃ T, lastT W = T := ⟨_, rfl⟩
      rw [hT] at hBu HTL HTB HX hTs
      have HT := Lib.hid hBu; clear hBu hT
      have hsu2 : wo.heap.size < wu.heap.size := by omega
      clear hsu hbu hOw hown hbel hBT hBW hNW
      have hXl := xorW_len 6 W T
      have hXat := fun k hk => xorW_at 6 W T k hk
      rw [HWL.out, show 24 + 4 * n - 4 * 6 = n * 4 by omega] at hXat
      obtain ⟨X, hX⟩ : ∃ X, xorW 6 W T = X := ⟨_, rfl⟩
      rw [hX] at hXl hXat HX
      have HXL2 := Lib.hid hXl; clear hXl
      have HXAT := Lib.hid hXat; clear hXat hX
      obtain ⟨g2, cap2, eg, -, -, -, hNWt⟩ := hownu.form (by omega)
      injection eg with eg1 eg2 eg3
      injection eg1 with eg1
      injection eg1 with eg4
      subst eg4
      clear eg2 eg3
      have HBWT2 : Hid (Bs wu g 0 W) := Lib.hid hNWt
      clear hNWt
      go_loopw [12] (fun i wv => ∃ k : Nat, k ≤ 4 ∧ i = .int .i64 k ∧ Blk wv wo.heap.size 190 (byteCells (partN X T k)) ∧ Keep wo.heap.size wu wv) (fun i _ => 4 - (intOf i).toNat)
      case atStart => exact ⟨0, by omega, rfl, by simpa [partN] using HT.out, Keep.refl _ _⟩
      case round =>
       obtain ⟨k, hk, rfl, hBr, hbr⟩ := hrel
       by_cases hkl : k < 4
       ·
        have hpl := partN_len X T k 4 HXL2.out HTL.out hk
        have hfr : wr.drew.frozen? ⟨wo.heap.size, k, none⟩ = false := hBr.frozen k
        have hcell : wr.drew.cell? ⟨wo.heap.size, k, none⟩ = some (.int .u8 (T.getD k 0 : Nat)) := by
         have := hBr.cell k
         rw [cellD _ k (by omega), partN_at X T k 4 HXL2.out hkl] at this
         exact this
        have hcw : wr.drew.cell? ⟨g, n * 4 + k, none⟩ = some (.int .u8 (W.getD (n * 4 + k) 0 : Nat)) := by
         have := (HBWT2.out.keep hbr hgG).cellD (n * 4 + k) (by rw [HWL.out]; omega)
         rw [Nat.zero_add] at this
         exact this
        have hxx := u8_xor_nat (T.getD k 0) (W.getD (n * 4 + k) 0) (HTB.out.at_ k) (HWB.out.at_ _)
        have hst := partN_set X T k 4 HXL2.out HTL.out hkl
        rw [HXAT.out k hkl] at hst
        have hnx := hBr.set_ k (.int .u8 ((T.getD k 0 ^^^ W.getD (n * 4 + k) 0 : Nat) : Int))
        rw [set_byteCells, hst, ← hxx] at hnx
        have hK2 : Keep wo.heap.size wu (wr.drew.setCell ⟨wo.heap.size, k, none⟩ (.int .u8 (bits .xor .u8 (T.getD k 0 : Nat) (W.getD (n * 4 + k) 0 : Nat)))) := (hbr.drewN 1).setCell k _
        have hnx2 : Blk (wr.drew.setCell ⟨wo.heap.size, k, none⟩ (.int .u8 (bits .xor .u8 (T.getD k 0 : Nat) (W.getD (n * 4 + k) 0 : Nat)))) wo.heap.size 190 (byteCells (partN X T (k + 1))) := hnx
        generalize T.getD k 0 = x1 at *
        generalize W.getD (n * 4 + k) 0 = y1 at *
        have HNX2 := Lib.hid hnx2; clear hnx2 hnx hst hpl hBr hxx
        have HK2 := Lib.hid hK2; clear hK2 hbr
        have hkI : (k : Int) < 4 := by omega
        have e1 : IntKind.i64.wrap ((m : Int) - 6) = (n : Int) := by rw [IntWalk.i64_in _ (by omega)]; omega
        have hnm : (n : Int) < (m : Int) := by omega
        go_wp2_with fail
        go_still_tail 14, (by kernel_rfl)
        change wpList _ _ _ _ _ wr.drew
        generalize wr.drew = w8 at *
        go_wp2
        go_roundw
        case rel => exact ⟨k + 1, by omega, by go_num, HNX2.out, HK2.out⟩
        case measure => simp [intOf]; omega
       ·
        obtain rfl : k = 4 := by omega
        rw [show ((4 : Nat) : Int) = 4 from rfl]
        rw [partN_end X T 4 HXL2.out HTL.out] at hBr
        have howny := hownu.keep hbr (fun e => hgG (by injection e))
        have hbely : Below (gb + 1) w3 wr := hbr.below hbelu (by have := hbelu.size; omega) (by omega)
        obtain ⟨a0, a1, a2, a3, rfl⟩ : ∃ a0 a1 a2 a3, X = [a0, a1, a2, a3] := by
         have := HXL2.out
         match X, this with
         | [a0, a1, a2, a3], _ => exact ⟨a0, a1, a2, a3, rfl⟩
        have hB4 : Blk wr wo.heap.size 190 #[.int .u8 (a0 : Int), .int .u8 (a1 : Int), .int .u8 (a2 : Int), .int .u8 (a3 : Int)] := hBr
        have q0 : wr.cell? ⟨wo.heap.size, 0, none⟩ = some (.int .u8 (a0 : Int)) := hB4.cell 0
        have q1 : wr.cell? ⟨wo.heap.size, 1, none⟩ = some (.int .u8 (a1 : Int)) := hB4.cell 1
        have q2 : wr.cell? ⟨wo.heap.size, 2, none⟩ = some (.int .u8 (a2 : Int)) := hB4.cell 2
        have q3 : wr.cell? ⟨wo.heap.size, 3, none⟩ = some (.int .u8 (a3 : Int)) := hB4.cell 3
        obtain ⟨wy, rfl⟩ : ∃ wy, wy = wr := ⟨_, rfl⟩
        have hszy := hbely.size
        have HOWY := Lib.hid (OwnW.below howny ((Below.refl wy.heap.size wy).alloc (Nat.le_refl _) (.cells #[.int .u8 (a0 : Int), .int .u8 (a1 : Int), .int .u8 (a2 : Int), .int .u8 (a3 : Int)] 190)) (Nat.le_refl _))
        have HNY := Lib.hid (Ns.ofBlk (Blk.new wy 190 (byteCells [a0, a1, a2, a3])))
        have HBY := Lib.hid (hbely.alloc (by omega) (.cells #[.int .u8 (a0 : Int), .int .u8 (a1 : Int), .int .u8 (a2 : Int), .int .u8 (a3 : Int)] 190))
        clear howny hbely hbr hBr hB4
        go_wp2_with (at_builtin; go_loud (refine wpList_append_word rfl (.tmp 150) (.tmp 152) rfl (gb + 1) w3 _ m W rfl HOWY.out HBY.out (by simp; omega) wy.heap.size 0 1 [a0, a1, a2, a3] rfl rfl HNY.out (by omega) ?_); intro v9 w9 hown9 hbel9 hsz9)
        rw [← HX.out] at hown9
        have HO9 := Lib.hid hown9; clear hown9
        go_wp2
        go_roundw
        case rel => exact ⟨n + 1, m + 1, by omega, by omega, by omega, by go_num, HO9.out, hbel9⟩
        case measure => simp [intOf]; omega
    ·
     obtain rfl : n = 46 := by omega
     obtain rfl : m = 52 := by omega
     have hfin : (wordsTo 6 key 46).1 = wordsG key := by rw [wordsG, HKL.out]
     rw [hfin] at hown hWl hWb
     clear hnx hpp hfin
     obtain ⟨g, cap, rfl, hg, hgl, hcap, hNW⟩ := hown.form (by omega)
     have hBW : Bs wr g 0 (wordsG key) := hNW
     obtain ⟨WS, hWS⟩ : ∃ WS, wordsG key = WS := ⟨_, rfl⟩
     rw [hWS] at hBW hWl hWb
     have HWS := Lib.hid hWS; clear hWS
     have HWL := Lib.hid hWl; clear hWl
     have HWB := Lib.hid hWb; clear hWb
     have HBW := Lib.hid hBW; clear hBW hNW hown
     have hbel7 : Below w.heap.size w wr := hbel3.trans (hbel.mono (by omega))
     obtain ⟨w6, rfl⟩ : ∃ w6, w6 = wr := ⟨_, rfl⟩
     clear hbel
     rw [show ((52 : Nat) : Int) = 52 from rfl]
     go_wp2
     go_loopw [13, 14] (fun v i wr => ∃ k : Nat, k ≤ 52 ∧ i = .int .i64 k ∧ OwnN 5 .u8 wr w6.heap.size v (WS.take (4 * k)) ∧ Below w6.heap.size w6 wr) (fun _ i _ => 52 - (intOf i).toNat)
     case atStart => exact ⟨0, by omega, rfl, OwnN.nil _ _ _ _, Below.refl _ _⟩
     case round =>
      obtain ⟨k, hk, rfl, hown, hbel⟩ := hrel
      by_cases hlt2 : k < 52
      ·
       have hkI : (k : Int) < 52 := by omega
       have hsz := hbel.size
       have hst : WS.take (4 * (k + 1)) = WS.take (4 * k) ++ [WS.getD (4 * k + 0) 0, WS.getD (4 * k + 1) 0, WS.getD (4 * k + 2) 0, WS.getD (4 * k + 3) 0] := take4 WS (4 * k) (by rw [HWL.out]; omega)
       rw [show 4 * k = k * 4 by omega] at hst hown
       have hll : (WS.take (k * 4)).length ≤ 400 := by rw [List.length_take]; omega
       have C0 := Lib.hid (fun W (hW : Below w6.heap.size w6 W) => (HBW.out.below hW hgl).cellD (k * 4 + 0) (by rw [HWL.out]; omega))
       have C1 := Lib.hid (fun W (hW : Below w6.heap.size w6 W) => (HBW.out.below hW hgl).cellD (k * 4 + 1) (by rw [HWL.out]; omega))
       have C2 := Lib.hid (fun W (hW : Below w6.heap.size w6 W) => (HBW.out.below hW hgl).cellD (k * 4 + 2) (by rw [HWL.out]; omega))
       have C3 := Lib.hid (fun W (hW : Below w6.heap.size w6 W) => (HBW.out.below hW hgl).cellD (k * 4 + 3) (by rw [HWL.out]; omega))
       rw [Nat.zero_add] at C0 C1 C2 C3
       rw [Nat.add_zero] at C0 hst
       generalize WS.getD (k * 4) 0 = x0 at *
       generalize WS.getD (k * 4 + 1) 0 = x1 at *
       generalize WS.getD (k * 4 + 2) 0 = x2 at *
       generalize WS.getD (k * 4 + 3) 0 = x3 at *
       obtain ⟨L, hL⟩ : ∃ L, WS.take (k * 4) = L := ⟨_, rfl⟩
       rw [hL] at hst hown hll
       have HST := Lib.hid hst; clear hst hL
       obtain ⟨K4, hK4⟩ : ∃ K4, k * 4 = K4 := ⟨_, rfl⟩
       rw [hK4] at C0 C1 C2 C3
       have HK4 := Lib.hid hK4; clear hK4
       go_wp2_with fail
       refine wp_region_tree (.q 0 (.q 1 (.q 2 (.q 3 (.q 4 (.q 5 (.q 6 (.q 7 (.q 8 (.q 9 (.q 10 (.q 11 (.q 12 (.q 13 (.q 14 (.q 15 (.q 16 (.q 17 (.q 18 (.q 19 (.q 20 (.e [21] fun _ => .e [22] fun _ => .q 23 (.done))))))))))))))))))))))) (fun W => Below w6.heap.size w6 W) rfl (by kernel_rfl) (fun _ _ d _ _ h => by cases d <;> exact h) ?_
       have hS : Below w6.heap.size w6 wr.drew := below_drewN hbel 1
       refine t_q rfl rfl hS _ (fun W hW => by (go_simp; rfl)) ?_
       go_simp
       refine t_q rfl rfl hS _ (fun W hW => by (go_simp; rfl)) ?_
       go_simp
       refine t_q rfl rfl hS _ (fun W hW => by (go_simp; rfl)) ?_
       go_simp
       refine t_q rfl rfl hS (.pointer (some ⟨g, K4, none⟩)) (fun W hW => by (rw [← HK4.out]; go_simp)) ?_
       go_simp
       refine t_q rfl rfl hS (.pointer (some ⟨g, K4, none⟩)) (fun W hW => by go_simp) ?_
       go_simp
       refine t_q rfl rfl hS (.int .u8 (x0 : Nat)) (fun W hW => by (have hc := C0.out W hW; go_simp)) ?_
       go_simp
       refine t_q rfl rfl hS _ (fun W hW => by (go_simp; rfl)) ?_
       go_simp
       refine t_q rfl rfl hS _ (fun W hW => by (go_simp; rfl)) ?_
       go_simp
       refine t_q rfl rfl hS (.pointer (some ⟨g, K4, none⟩)) (fun W hW => by (rw [← HK4.out]; go_simp)) ?_
       go_simp
       refine t_q rfl rfl hS (.pointer (some ⟨g, K4 + 1, none⟩)) (fun W hW => by go_simp) ?_
       go_simp
       refine t_q rfl rfl hS (.int .u8 (x1 : Nat)) (fun W hW => by (have hc := C1.out W hW; go_simp)) ?_
       go_simp
       refine t_q rfl rfl hS _ (fun W hW => by (go_simp; rfl)) ?_
       go_simp
       refine t_q rfl rfl hS _ (fun W hW => by (go_simp; rfl)) ?_
       go_simp
       refine t_q rfl rfl hS (.pointer (some ⟨g, K4, none⟩)) (fun W hW => by (rw [← HK4.out]; go_simp)) ?_
       go_simp
       refine t_q rfl rfl hS (.pointer (some ⟨g, K4 + 2, none⟩)) (fun W hW => by go_simp) ?_
       go_simp
       refine t_q rfl rfl hS (.int .u8 (x2 : Nat)) (fun W hW => by (have hc := C2.out W hW; go_simp)) ?_
       go_simp
       refine t_q rfl rfl hS _ (fun W hW => by (go_simp; rfl)) ?_
       go_simp
       refine t_q rfl rfl hS _ (fun W hW => by (go_simp; rfl)) ?_
       go_simp
       refine t_q rfl rfl hS (.pointer (some ⟨g, K4, none⟩)) (fun W hW => by (rw [← HK4.out]; go_simp)) ?_
       go_simp
       refine t_q rfl rfl hS (.pointer (some ⟨g, K4 + 3, none⟩)) (fun W hW => by go_simp) ?_
       go_simp
       refine t_q rfl rfl hS (.int .u8 (x3 : Nat)) (fun W hW => by (have hc := C3.out W hW; go_simp)) ?_
       go_simp
       refine t_e rfl rfl fun K hK => ?_
       go_simp
       refine hK _ _ (hS.alloc (by simp; omega) _) ?_
       clear hK K
       change wpT _ _ _ _ _ _ (wr.drew.alloc (.cells #[.int .u8 (x0 : Int), .int .u8 (x1 : Int), .int .u8 (x2 : Int), .int .u8 (x3 : Int)] 5))
       have hNn : Ns .u8 (wr.drew.alloc (.cells #[.int .u8 (x0 : Int), .int .u8 (x1 : Int), .int .u8 (x2 : Int), .int .u8 (x3 : Int)] 5)) wr.heap.size 0 [x0, x1, x2, x3] := Ns.ofBlk (Blk.new wr.drew 5 (byteCells [x0, x1, x2, x3]))
       have hown4 := OwnN.below hown ((below_drewN (Below.refl wr.heap.size wr) 1).alloc (Nat.le_refl _) (.cells #[.int .u8 (x0 : Int), .int .u8 (x1 : Int), .int .u8 (x2 : Int), .int .u8 (x3 : Int)] 5)) (Nat.le_refl _)
       refine t_e rfl rfl fun K hK => ?_
       refine op_append_nums (.tmp 160) (.tmp 181) 22 rfl .u8 5 1 Tryz.underlying22 info_byte w6.heap.size w6 _ L rfl hown4 (hS.alloc (by simp; omega) _) (by simp; omega) _ 4 4 [x0, x1, x2, x3] rfl rfl ⟨_, _, rfl, hNn⟩ (by omega) (by omega) fun v5 w5 hown5 hbel5 hsz5 => ?_
       rw [← HST.out] at hown5
       refine hK _ _ hbel5 ?_
       clear hK K hNn hown4
       go_simp
       refine t_q rfl rfl hbel5 _ (fun W hW => by (go_simp; rfl)) ?_
       go_simp
       refine t_done ?_
       go_wp2
       go_roundw
       case rel => exact ⟨k + 1, by omega, by go_num, hown5, hbel5⟩
       case measure => simp [intOf]; omega
      ·
       obtain rfl : k = 52 := by omega
       have hfl : WS.take (4 * 52) = WS := List.take_of_length_le (by rw [HWL.out]; decide)
       rw [hfl] at hown
       clear hfl
       have hbel8 := hbel7.trans (hbel.mono hbel7.size)
       have hs7 := hbel7.size
       go_wp2
       go_ret
       exact ⟨⟨_, rfl, by rw [HWS.out]; exact hown.more hs7⟩, hbel8⟩
end Go.Proofs.YthodpjcdmdbnoaaGreatDoor
