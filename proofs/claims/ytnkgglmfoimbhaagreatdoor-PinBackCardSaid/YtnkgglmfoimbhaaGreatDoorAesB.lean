/- The contract of aes.columns. -/
import Derived.Test.YtnkgglmfoimbhaaGreatDoorAesA
namespace Go.Proofs.YtnkgglmfoimbhaaGreatDoor
open Go Go.RowKit Pr

theorem info_4u8 : (Tryz.prog.info? 208).map (·.size) = some 4 := by kernel_rfl
theorem colTo_zero (l m : List Nat) (i : Nat) : colTo l m i 0 = 0 := rfl
set_option maxHeartbeats 4000000 in
set_option maxRecDepth 100000 in
theorem columns_any (g : Nat) (l m : List Nat) (hl : l.length = 16) (hb : Byt l) (hm : m.length = 4) (hmb : Byt m) (w : World) (hB : Blk w g 39 (byteCells l)) :
    Calls Tryz.prog 133 #[.pointer (some ⟨g, 0, none⟩), .agg (byteCells m)] w fun e w' => e = .returned (.tuple #[]) ∧ Blk w' g 39 (byteCells (columnsG l m)) ∧ Keep g w w' := by
  have hml := columnsG_len l m
  have hmk : ∀ k, k < 16 → (columnsG l m).getD k 0 = colTo l m k 4 := fun k hk => rangeD (fun i => colTo l m i 4) 16 k hk
  generalize columnsG l m = M at *
  have hgl := hB.lt
  have hsz := Lib.hid (size_byteCells l)
  have hszm := Lib.hid (size_byteCells m)
  have HL := Lib.hid hl; clear hl
  have HM := Lib.hid hm; clear hm
  have HML := Lib.hid hml; clear hml
  have HMK := Lib.hid hmk; clear hmk
  have HX := Lib.hid (fun k => hb.at_ k)
  have HY := Lib.hid (fun k => hmb.at_ k)
  have HC := Lib.hid (fun i k => colTo_lt (l := l) hmb i k)
  clear hb hmb
  obtain ⟨cm, hcm⟩ : ∃ cm, byteCells m = cm := ⟨_, rfl⟩
  rw [hcm] at hszm ⊢
  have HCM := Lib.hid hcm; clear hcm
  go_enter Tryz.func133, Tryz.ntmps133
  go_wp2_with (first
    | (refine wpList_load_row rfl 39 (.tmp 10) rfl g rfl 39 _ (0,0) _ (hB.alloc _) Tryz.underlying39 rfl (by rw [info_16u8, hsz.out, HL.out]) ?_)
    | (refine wpList_store_all rfl 39 (.tmp 4) (.tmp 11) rfl (w.heap.size + 1) (byteCells l) rfl rfl 39 _ (Blk.new2 w _ _ _) (by rw [info_16u8, hsz.out, HL.out]) (by rw [hsz.out, HL.out]; rfl) (bytes_one _) ?_; intro w1 hW1 hO1))
  have hB1 := ((hB.alloc (.cells cm 208)).alloc (.cells #[Value.int IntKind.u8 0, Value.int IntKind.u8 0, Value.int IntKind.u8 0, Value.int IntKind.u8 0, Value.int IntKind.u8 0, Value.int IntKind.u8 0, Value.int IntKind.u8 0, Value.int IntKind.u8 0, Value.int IntKind.u8 0, Value.int IntKind.u8 0, Value.int IntKind.u8 0, Value.int IntKind.u8 0, Value.int IntKind.u8 0, Value.int IntKind.u8 0, Value.int IntKind.u8 0, Value.int IntKind.u8 0] 39)).only hO1 (by omega)
  have hM1 := ((Blk.new w 208 cm).alloc (.cells #[Value.int IntKind.u8 0, Value.int IntKind.u8 0, Value.int IntKind.u8 0, Value.int IntKind.u8 0, Value.int IntKind.u8 0, Value.int IntKind.u8 0, Value.int IntKind.u8 0, Value.int IntKind.u8 0, Value.int IntKind.u8 0, Value.int IntKind.u8 0, Value.int IntKind.u8 0, Value.int IntKind.u8 0, Value.int IntKind.u8 0, Value.int IntKind.u8 0, Value.int IntKind.u8 0, Value.int IntKind.u8 0] 39)).only hO1 (by omega)
  rw [← HCM.out] at hM1
  have hK1 : Keep g w w1 := Keep.ofBelow (hO1.below (((Below.refl _ _).alloc (Nat.le_refl _) _).alloc (by simp) _) (by omega))
  clear hO1 hB
  have hgn : w.heap.size ≠ g := by omega
  have hgn2 : w.heap.size + 1 ≠ g := by omega
  go_loopw [12] (fun i wr => ∃ k : Nat, k ≤ 16 ∧ i = .int .i64 k ∧ Blk wr g 39 (byteCells (partN M l k)) ∧ Blk wr w.heap.size 208 (byteCells m) ∧ Blk wr (w.heap.size + 1) 39 (byteCells l) ∧ Keep g w wr) (fun i _ => 16 - (intOf i).toNat)
  case atStart => exact ⟨0, by omega, rfl, by simpa [partN] using hB1, hM1, hW1, hK1⟩
  case round =>
    obtain ⟨k, hk, rfl, hBr, hMr, hWr, hbr⟩ := hrel
    clear hB1 hM1 hW1 hK1
    by_cases hlt : k < 16
    · have hpl := partN_len M l k 16 HML.out HL.out hk
      have hst := partN_set M l k 16 HML.out HL.out hlt
      rw [HMK.out k hlt] at hst
      obtain ⟨q, hq⟩ : ∃ q, k / 4 * 4 = q := ⟨_, rfl⟩
      obtain ⟨c0, hcell⟩ : ∃ c, wr.cell? ⟨g, k, none⟩ = some c := by
        have := hBr.cell k
        rw [cellD _ k (by omega)] at this
        exact ⟨_, this⟩
      have hfr := hBr.frozen k
      have hB2 := hBr.set_ k (.int .u8 ((0 : Nat) : Int))
      rw [set_byteCells] at hB2
      have HB2 := Lib.hid hB2; clear hB2 hBr
      have HMr := Lib.hid hMr; clear hMr
      have HWr := Lib.hid hWr; clear hWr
      have HST := Lib.hid hst; clear hst
      have hK2 : Keep g w (wr.setCell ⟨g, k, none⟩ (.int .u8 0)) := hbr.setCell _ _
      go_wp2
      have hdk : decide ((k : Int) < 16) = true := by rw [decide_eq_true_iff]; omega
      rw [hdk]
      clear hdk
      have hB3 : Blk (wr.setCell ⟨g, k, none⟩ (.int .u8 0)) g 39 (byteCells ((partN M l k).set k 0)) := HB2.out
      have hM3 : Blk (wr.setCell ⟨g, k, none⟩ (.int .u8 0)) w.heap.size 208 (byteCells m) := HMr.out.far hgn _
      have hW3 : Blk (wr.setCell ⟨g, k, none⟩ (.int .u8 0)) (w.heap.size + 1) 39 (byteCells l) := HWr.out.far hgn2 _
      clear HB2 HMr HWr hcell hfr hbr
      generalize wr.setCell ⟨g, k, none⟩ (.int .u8 0) = w3 at *
      go_loopw [24] (fun i wv => ∃ j : Nat, j ≤ 4 ∧ i = .int .i64 j ∧ Blk wv g 39 (byteCells ((partN M l k).set k (colTo l m k j))) ∧ Blk wv w.heap.size 208 (byteCells m) ∧ Blk wv (w.heap.size + 1) 39 (byteCells l) ∧ Keep g w wv) (fun i _ => 4 - (intOf i).toNat)
      case atStart => exact ⟨0, by omega, rfl, hB3, hM3, hW3, hK2⟩
      case round =>
        obtain ⟨j, hj, rfl, hBj, hMj, hWj, hbj⟩ := hrel
        clear hB3 hM3 hW3 hK2
        by_cases hjl : j < 4
        · obtain ⟨s, hs⟩ : ∃ s, k % 4 + j = s := ⟨_, rfl⟩
          obtain ⟨t, ht⟩ : ∃ t, s % 4 = t := ⟨_, rfl⟩
          obtain ⟨J, hJ⟩ : ∃ J, k / 4 * 4 + t = J := ⟨_, rfl⟩
          have hJl : J < 16 := by omega
          have hJi : (J : Int) < 16 := by omega
          have e1 : IntKind.i64.wrap ((k : Int) % 4 + (j : Int)) = (s : Int) := by rw [IntWalk.i64_in _ (by omega)]; omega
          have e2 : (s : Int) % 4 = (t : Int) := by omega
          have e3 : (s : Int).tmod 4 = (t : Int) := by rw [Int.tmod_eq_emod_of_nonneg (by omega)]; exact e2
          have e4 : IntKind.i64.wrap ((k : Int) / 4 * 4 + (t : Int)) = (J : Int) := by rw [IntWalk.i64_in _ (by omega)]; omega
          have hsn : colTo l m k (j + 1) = colTo l m k j ^^^ mulG (m.getD j 0) (l.getD J 0) := by rw [← hJ, ← ht, ← hs]; rfl
          have hc1 : wr.drew.cell? ⟨g, k, none⟩ = some (.int .u8 (colTo l m k j : Nat)) := by
            have := hBj.cell k
            rw [cellD _ k (by rw [List.length_set, hpl]; exact hlt)] at this
            rw [getD_of _ _ (by rw [List.length_set, hpl]; exact hlt), List.getElem_set_self] at this
            exact this
          have hfr : wr.drew.frozen? ⟨g, k, none⟩ = false := hBj.frozen k
          have hc2 : wr.drew.cell? ⟨w.heap.size, j, none⟩ = some (.int .u8 (m.getD j 0 : Nat)) := by
            have := hMj.cell j
            rw [cellD _ j (by rw [HM.out]; exact hjl)] at this
            exact this
          have hc3 : wr.drew.cell? ⟨w.heap.size + 1, J, none⟩ = some (.int .u8 (l.getD J 0 : Nat)) := by
            have := hWj.cell J
            rw [cellD _ J (by rw [HL.out]; exact hJl)] at this
            exact this
          have hCM := Lib.hid (fun W => mul_any (m.getD j 0) (l.getD J 0) (HY.out j) (HX.out J) W)
          have hmg := mulG_lt (m.getD j 0) (l.getD J 0) (HY.out j)
          have hcl := HC.out k j
          have hnx := hBj.set_ k (.int .u8 ((colTo l m k (j + 1) : Nat) : Int))
          rw [set_byteCells, List.set_set] at hnx
          have HSN := Lib.hid hsn; clear hsn
          rw [HSN.out] at hnx
          generalize mulG (m.getD j 0) (l.getD J 0) = P at *
          have hX := u8_xor_nat _ P hcl hmg
          rw [← hX, ← HSN.out] at hnx
          clear hX
          have HNX := Lib.hid hnx; clear hnx
          generalize m.getD j 0 = a1 at *
          generalize l.getD J 0 = a2 at *
          have HMj := Lib.hid hMj; clear hMj
          have HWj := Lib.hid hWj; clear hWj hBj
          go_wp2_with fail
          go_still_tail 20, (by kernel_rfl)
          still_call ((hCM.out _).mono (fun e w' h => ⟨h.1, h.2.symm⟩))
          repeat still_step
          refine wpStill_nil ?_
          change wpList _ _ _ _ _ wr.drew
          have hbr2 : Keep g w wr.drew := hbj.drewN 1
          have hnx2 : Blk (wr.drew.setCell ⟨g, k, none⟩ (.int .u8 (bits .xor .u8 ((colTo l m k j : Nat) : Int) (P : Int)))) g 39 (byteCells ((partN M l k).set k (colTo l m k (j + 1)))) := HNX.out
          have hM2 : Blk (wr.drew.setCell ⟨g, k, none⟩ (.int .u8 (bits .xor .u8 ((colTo l m k j : Nat) : Int) (P : Int)))) w.heap.size 208 (byteCells m) := (HMj.out.drewN 1).far hgn _
          have hW2 : Blk (wr.drew.setCell ⟨g, k, none⟩ (.int .u8 (bits .xor .u8 ((colTo l m k j : Nat) : Int) (P : Int)))) (w.heap.size + 1) 39 (byteCells l) := (HWj.out.drewN 1).far hgn2 _
          have HNX2 := Lib.hid hnx2; clear hnx2 HNX
          have HM2 := Lib.hid hM2; clear hM2 HMj
          have HW2 := Lib.hid hW2; clear hW2 HWj
          clear hbj
          generalize wr.drew = w2 at *
          go_wp2
          go_roundw
          case rel => exact ⟨j + 1, by omega, by go_num, HNX2.out, HM2.out, HW2.out, hbr2.setCell _ _⟩
          case measure => simp [intOf]; omega
        · obtain rfl : j = 4 := by omega
          rw [HST.out] at hBj
          go_wp2
          go_roundw
          case rel => exact ⟨k + 1, by omega, by go_num, hBj, hMj, hWj, hbj⟩
          case measure => simp [intOf]; omega
    · obtain rfl : k = 16 := by omega
      rw [partN_end M l 16 HML.out HL.out] at hBr
      go_wp2
      go_returns
      exact ⟨rfl, hBr, hbr⟩
end Go.Proofs.YtnkgglmfoimbhaaGreatDoor
