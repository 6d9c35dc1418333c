/- The contracts of aes.rounds, aes.with, aes.rows, aes.boxes, aes.columns. -/
import Derived.Test.YtnkgglmfoimbhaaGreatDoorGf
import Derived.Test.YtnkgglmfoimbhaaGreatDoorPinC
import Derived.Handy
namespace Go.Proofs.YtnkgglmfoimbhaaGreatDoor
open Go Go.RowKit Pr

/-- all old blocks but g are as they were -/
structure Keep (g : Nat) (w w' : World) : Prop where
  os : w'.os = w.os
  tape : w'.tape = w.tape
  output : w'.output = w.output
  size : w.heap.size ≤ w'.heap.size
  block : ∀ i, i < w.heap.size → i ≠ g → w'.heap[i]? = w.heap[i]?
theorem Keep.refl (g : Nat) (w : World) : Keep g w w := ⟨rfl, rfl, rfl, Nat.le_refl _, fun _ _ _ => rfl⟩
theorem Keep.trans {g : Nat} {a b c : World} (h : Keep g a b) (k : Keep g b c) : Keep g a c :=
  ⟨k.os.trans h.os, k.tape.trans h.tape, k.output.trans h.output, Nat.le_trans h.size k.size, fun i hi hn => (k.block i (Nat.lt_of_lt_of_le hi h.size) hn).trans (h.block i hi hn)⟩
theorem Keep.drewN {g : Nat} {a b : World} (h : Keep g a b) (n : Nat) : Keep g a (b.drewN n) := ⟨h.os, h.tape, h.output, h.size, h.block⟩
theorem Keep.setCell {g : Nat} {a b : World} (h : Keep g a b) (i : Nat) (u : Value) : Keep g a (b.setCell ⟨g, i, none⟩ u) :=
  h.trans ⟨rfl, rfl, rfl, by simp [World.setCell], fun k _ hk => Below.heap_setCell b ⟨g, i, none⟩ u k hk⟩
theorem Keep.ofBelow {g : Nat} {a b : World} (h : Below a.heap.size a b) : Keep g a b := ⟨h.os, h.tape, h.output, h.size, fun i hi _ => h.block i hi⟩
theorem Keep.alloc {g : Nat} {a b : World} (h : Keep g a b) (o : Obj) : Keep g a (b.alloc o) := h.trans (Keep.ofBelow ((Below.refl _ _).alloc (Nat.le_refl _) o))
theorem Keep.below {g B : Nat} {a w w' : World} (h : Keep g w w') (hb : Below B a w) (hB : B ≤ w.heap.size) (hg : B ≤ g) : Below B a w' :=
  ⟨h.os.trans hb.os, h.tape.trans hb.tape, h.output.trans hb.output, Nat.le_trans hb.size h.size, fun i hi => (h.block i (by omega) (by omega)).trans (hb.block i hi)⟩
theorem Blk.keep {g g' : Nat} {t : TypeId} {cs : Array Value} {w w' : World} (h : Blk w g' t cs) (ho : Keep g w w') (hne : g' ≠ g) : Blk w' g' t cs := (ho.block g' h.lt hne).trans h
theorem Bs.keep {g b o : Nat} {l : List Nat} {w w' : World} (h : Bs w b o l) (ho : Keep g w w') (hne : b ≠ g) : Bs w' b o l := fun j v hv =>
  (World.cell?_of_block (ho.block b (block_lt_of_cell (h j v hv)) hne)).trans (h j v hv)

/-- the first k of the new, the rest of the old -/
def partN (m l : List Nat) (k : Nat) : List Nat := m.take k ++ l.drop k
theorem partN_len (m l : List Nat) (k n : Nat) (hm : m.length = n) (hl : l.length = n) (hk : k ≤ n) : (partN m l k).length = n := by simp [partN, hm, hl]; omega
theorem partN_at (m l : List Nat) (k n : Nat) (hm : m.length = n) (hk : k < n) : (partN m l k).getD k 0 = l.getD k 0 := by
  unfold partN
  rw [List.getD_eq_getElem?_getD, List.getD_eq_getElem?_getD, List.getElem?_append_right (by simp; omega), List.getElem?_drop]
  congr 2
  simp; omega
theorem partN_set (m l : List Nat) (k n : Nat) (hm : m.length = n) (hl : l.length = n) (hk : k < n) : (partN m l k).set k (m.getD k 0) = partN m l (k + 1) := by
  apply List.ext_getElem?
  intro i
  have h1 : (m.take k).length = k := by simp; omega
  have h2 : (m.take (k + 1)).length = k + 1 := by simp; omega
  have h3 := partN_len m l k n hm hl (by omega)
  unfold partN at *
  rw [List.getElem?_set]
  by_cases hik : k = i
  · subst hik
    rw [if_pos rfl, if_pos (by omega), List.getElem?_append_left (by omega), List.getElem?_take_of_lt (by omega), List.getElem?_eq_getElem (by omega), getD_of _ _ (by omega)]
  · rw [if_neg hik]
    by_cases hlt : i < k
    · rw [List.getElem?_append_left (by omega), List.getElem?_append_left (by omega), List.getElem?_take_of_lt (by omega), List.getElem?_take_of_lt (by omega)]
    · rw [List.getElem?_append_right (by omega), List.getElem?_append_right (by omega), h1, h2, List.getElem?_drop, List.getElem?_drop]
      congr 1
      omega
theorem partN_end (m l : List Nat) (n : Nat) (hm : m.length = n) (hl : l.length = n) : partN m l n = m := by
  unfold partN
  rw [List.take_of_length_le (by omega), List.drop_of_length_le (by omega), List.append_nil]
theorem cellD (l : List Nat) (k : Nat) (hk : k < l.length) : (byteCells l)[k]? = some (.int .u8 (l.getD k 0 : Nat)) := by
  rw [get_byteCells l k hk, getD_of _ _ hk]
theorem Bs.cellD {w : World} {b o : Nat} {l : List Nat} (h : Bs w b o l) (j : Nat) (hj : j < l.length) : w.cell? ⟨b, o + j, none⟩ = some (.int .u8 (l.getD j 0 : Nat)) := by
  rw [h.cell j hj, getD_of _ _ hj]

theorem rounds16 (A : Option Addr) (cp : Nat) (w : World) : Calls Tryz.prog 131 #[.slice A 16 cp] w fun e w' => e = .returned (.int .i64 10) ∧ w = w' := by
  go_enter Tryz.func131, Tryz.ntmps131
  go_wp2
  go_ret
  exact ⟨rfl, rfl⟩

set_option maxHeartbeats 2000000 in
set_option maxRecDepth 100000 in
theorem with_any (g : Nat) (l ws : List Nat) (r n cp : Nat) (hl : l.length = 16) (hlb : Byt l) (hwb : Byt ws) (hr : 16 * r + 16 ≤ n) (hn : ws.length = n) (hn2 : n ≤ 1000) (b o : Nat) (w : World) (hB : Blk w g 39 (byteCells l)) (hA : Bs w b o ws) (hne : b ≠ g) :
    Calls Tryz.prog 132 #[.pointer (some ⟨g, 0, none⟩), .slice (some ⟨b, o, none⟩) n cp, .int .i64 r] w fun e w' => e = .returned (.tuple #[]) ∧ Blk w' g 39 (byteCells (withG l ws r)) ∧ Keep g w w' := by
  have hml := withG_len l ws r
  have hmk : ∀ k, k < 16 → (withG l ws r).getD k 0 = l.getD k 0 ^^^ ws.getD (16 * r + k) 0 := fun k hk => rangeD _ _ _ hk
  generalize withG l ws r = M at *
  have e1 : IntKind.i64.wrap (16 * (r : Int)) = ((16 * r : Nat) : Int) := by rw [IntWalk.i64_in _ (by omega)]; omega
  generalize 16 * r = R at *
  have HX := Lib.hid (fun k => hlb.at_ k)
  have HY := Lib.hid (fun k => hwb.at_ k)
  have hcy : ∀ W k, k < 16 → Keep g w W → W.cell? ⟨b, o + (R + k), none⟩ = some (.int .u8 (ws.getD (R + k) 0 : Nat)) := fun W k hk hW => (hA.keep hW hne).cellD (R + k) (by omega)
  have HCY := Lib.hid hcy; clear hcy
  have HL := Lib.hid hl; clear hl
  have HML := Lib.hid hml; clear hml
  have HMK := Lib.hid hmk; clear hmk
  clear hA hlb hwb hn
  go_enter Tryz.func132, Tryz.ntmps132
  go_wp2
  go_loopw [7] (fun i wr => ∃ k : Nat, k ≤ 16 ∧ i = .int .i64 k ∧ Blk wr g 39 (byteCells (partN M l k)) ∧ Keep g w wr) (fun i _ => 16 - (intOf i).toNat)
  case atStart => exact ⟨0, by omega, rfl, by simpa [partN] using hB, Keep.refl _ _⟩
  case round =>
    obtain ⟨k, hk, rfl, hBr, hbr⟩ := hrel
    by_cases hlt : k < 16
    · have hpl := partN_len M l k 16 HML.out HL.out hk
      have hcell : wr.drew.cell? ⟨g, k, none⟩ = some (.int .u8 (l.getD k 0 : Nat)) := by
        have := hBr.cell k
        rw [cellD _ k (by omega), partN_at M l k 16 HML.out hlt] at this
        exact this
      have hfr : wr.drew.frozen? ⟨g, k, none⟩ = false := hBr.frozen k
      have hcy := HCY.out wr.drew k hlt (hbr.drewN 1)
      have hX := u8_xor_nat _ _ (HX.out k) (HY.out (R + k))
      have hst := partN_set M l k 16 HML.out HL.out hlt
      rw [HMK.out k hlt] at hst
      have hnx := hBr.set_ k (.int .u8 ((l.getD k 0 ^^^ ws.getD (R + k) 0 : Nat) : Int))
      rw [set_byteCells, hst] at hnx
      generalize l.getD k 0 = x1 at *
      generalize ws.getD (R + k) 0 = y1 at *
      have e2 : IntKind.i64.wrap ((R : Int) + (k : Int)) = ((R + k : Nat) : Int) := by rw [IntWalk.i64_in _ (by omega)]; omega
      have hRk : R + k < n := by omega
      obtain ⟨T, hT⟩ : ∃ T, R + k = T := ⟨_, rfl⟩
      rw [hT] at hcy hRk e2
      rw [← hX] at hnx
      have HNX := Lib.hid hnx; clear hnx hst hX hpl
      clear hBr
      go_wp2_with fail
      go_still_tail 15, (by kernel_rfl)
      change wpList _ _ _ _ _ wr.drew
      have hbr2 : Keep g w wr.drew := hbr.drewN 1
      have hnx2 : Blk (wr.drew.setCell ⟨g, k, none⟩ (.int .u8 (bits .xor .u8 (x1 : Int) (y1 : Int)))) g 39 (byteCells (partN M l (k + 1))) := HNX.out
      have HNX2 := Lib.hid hnx2; clear hnx2 HNX
      generalize wr.drew = w2 at *
      go_wp2
      go_roundw
      case rel => exact ⟨k + 1, by omega, by go_num, HNX2.out, hbr2.setCell _ _⟩
      case measure => simp [intOf]; omega
    · obtain rfl : k = 16 := by omega
      rw [partN_end M l 16 HML.out HL.out] at hBr
      go_wp2
      go_returns
      exact ⟨rfl, hBr, hbr⟩

theorem info_16u8 : (Tryz.prog.info? 39).map (·.size) = some 16 := by kernel_rfl
set_option maxHeartbeats 2000000 in
set_option maxRecDepth 100000 in
theorem rows_any (g : Nat) (l : List Nat) (t : Nat) (ht : t = 1 ∨ t = 3) (hl : l.length = 16) (w : World) (hB : Blk w g 39 (byteCells l)) :
    Calls Tryz.prog 134 #[.pointer (some ⟨g, 0, none⟩), .int .i64 t] w fun e w' => e = .returned (.tuple #[]) ∧ Blk w' g 39 (byteCells (rowsG l t)) ∧ Keep g w w' := by
  have hml := rowsG_len l t
  have hmk : ∀ k, k < 16 → (rowsG l t).getD k 0 = l.getD ((k + 4 * (k % 4) * t) % 16) 0 := fun k hk => rangeD _ _ _ hk
  generalize rowsG l t = M at *
  have hgl := hB.lt
  have hsz := Lib.hid (size_byteCells l)
  have HL := Lib.hid hl; clear hl
  have HML := Lib.hid hml; clear hml
  have HMK := Lib.hid hmk; clear hmk
  have hcy : ∀ W : World, Blk W w.heap.size 39 (byteCells l) → ∀ j, j < 16 → W.cell? ⟨w.heap.size, j, none⟩ = some (.int .u8 (l.getD j 0 : Nat)) := fun W hW j hj => by
    rw [hW.cell j, cellD _ j (by rw [HL.out]; exact hj)]
  have HCY := Lib.hid hcy; clear hcy
  rcases ht with rfl | rfl
  · go_enter Tryz.func134, Tryz.ntmps134
    go_wp2_with (first
      | (refine wpList_load_row rfl 39 (.tmp 8) rfl g rfl 39 _ (0,0) _ hB Tryz.underlying39 rfl (by rw [info_16u8, hsz.out, HL.out]) ?_)
      | (refine wpList_store_all rfl 39 (.tmp 4) (.tmp 9) rfl w.heap.size (byteCells l) rfl rfl 39 _ (Blk.new w _ _) (by rw [info_16u8, hsz.out, HL.out]) (by rw [hsz.out, HL.out]; rfl) (bytes_one _) ?_; intro w1 hW1 hO1))
    have hB1 := (hB.alloc (.cells #[Value.int IntKind.u8 0, Value.int IntKind.u8 0, Value.int IntKind.u8 0, Value.int IntKind.u8 0, Value.int IntKind.u8 0, Value.int IntKind.u8 0, Value.int IntKind.u8 0, Value.int IntKind.u8 0, Value.int IntKind.u8 0, Value.int IntKind.u8 0, Value.int IntKind.u8 0, Value.int IntKind.u8 0, Value.int IntKind.u8 0, Value.int IntKind.u8 0, Value.int IntKind.u8 0, Value.int IntKind.u8 0] 39)).only hO1 (by omega)
    have hK1 : Keep g w w1 := Keep.ofBelow (hO1.below ((Below.refl _ _).alloc (Nat.le_refl _) _) (Nat.le_refl _))
    clear hO1 hB
    have hgn : w.heap.size ≠ g := by omega
    go_loopw [10] (fun i wr => ∃ k : Nat, k ≤ 16 ∧ i = .int .i64 k ∧ Blk wr g 39 (byteCells (partN M l k)) ∧ Blk wr w.heap.size 39 (byteCells l) ∧ Keep g w wr) (fun i _ => 16 - (intOf i).toNat)
    case atStart => exact ⟨0, by omega, rfl, by simpa [partN] using hB1, hW1, hK1⟩
    case round =>
      obtain ⟨k, hk, rfl, hBr, hWr, hbr⟩ := hrel
      by_cases hlt : k < 16
      · have hpl := partN_len M l k 16 HML.out HL.out hk
        have hfr : wr.drew.frozen? ⟨g, k, none⟩ = false := hBr.frozen k
        obtain ⟨c0, hcell⟩ : ∃ c, wr.drew.cell? ⟨g, k, none⟩ = some c := by
          have := hBr.cell k
          rw [cellD _ k (by omega)] at this
          exact ⟨_, this⟩
        obtain ⟨J, hJ⟩ : ∃ J, (k + 4 * (k % 4) * 1) % 16 = J := ⟨_, rfl⟩
        have hJl : J < 16 := by omega
        have hJi : (J : Int) < 16 := by omega
        obtain ⟨m, hm⟩ : ∃ m : Nat, 4 * (k % 4) = m := ⟨_, rfl⟩
        obtain ⟨m3, hm3⟩ : ∃ m3 : Nat, m * 1 = m3 := ⟨_, rfl⟩
        obtain ⟨s, hs⟩ : ∃ s : Nat, k + m3 = s := ⟨_, rfl⟩
        have e1 : IntKind.i64.wrap (4 * ((k : Int) % 4)) = (m : Int) := by rw [IntWalk.i64_in _ (by omega)]; omega
        have e2 : IntKind.i64.wrap (m : Int) = (m3 : Int) := by rw [IntWalk.i64_in _ (by omega)]; omega
        have e3 : IntKind.i64.wrap ((k : Int) + (m3 : Int)) = (s : Int) := by rw [IntWalk.i64_in _ (by omega)]; omega
        have e5 : (s : Int) % 16 = (J : Int) := by omega
        have e4 : (s : Int).tmod 16 = (J : Int) := by rw [Int.tmod_eq_emod_of_nonneg (by omega)]; exact e5
        have hcy := HCY.out wr.drew (hWr.drewN 1) J hJl
        have hst := partN_set M l k 16 HML.out HL.out hlt
        rw [HMK.out k hlt, hJ] at hst
        have hnx := hBr.set_ k (.int .u8 ((l.getD J 0 : Nat) : Int))
        rw [set_byteCells, hst] at hnx
        generalize l.getD J 0 = y1 at *
        have HNX := Lib.hid hnx; clear hnx hst hpl
        have HWr := Lib.hid hWr; clear hWr hBr hW1 hB1
        go_wp2_with fail
        go_still_tail 13, (by kernel_rfl)
        change wpList _ _ _ _ _ wr.drew
        have hbr2 : Keep g w wr.drew := hbr.drewN 1
        have hnx2 : Blk (wr.drew.setCell ⟨g, k, none⟩ (.int .u8 (y1 : Int))) g 39 (byteCells (partN M l (k + 1))) := HNX.out
        have hW2 : Blk (wr.drew.setCell ⟨g, k, none⟩ (.int .u8 (y1 : Int))) w.heap.size 39 (byteCells l) := (HWr.out.drewN 1).far hgn _
        have HNX2 := Lib.hid hnx2; clear hnx2 HNX
        have HW2 := Lib.hid hW2; clear hW2 HWr
        generalize wr.drew = w2 at *
        go_wp2
        go_roundw
        case rel => exact ⟨k + 1, by omega, by go_num, HNX2.out, HW2.out, hbr2.setCell _ _⟩
        case measure => simp [intOf]; omega
      · obtain rfl : k = 16 := by omega
        rw [partN_end M l 16 HML.out HL.out] at hBr
        go_wp2
        go_returns
        exact ⟨rfl, hBr, hbr⟩
  · go_enter Tryz.func134, Tryz.ntmps134
    go_wp2_with (first
      | (refine wpList_load_row rfl 39 (.tmp 8) rfl g rfl 39 _ (0,0) _ hB Tryz.underlying39 rfl (by rw [info_16u8, hsz.out, HL.out]) ?_)
      | (refine wpList_store_all rfl 39 (.tmp 4) (.tmp 9) rfl w.heap.size (byteCells l) rfl rfl 39 _ (Blk.new w _ _) (by rw [info_16u8, hsz.out, HL.out]) (by rw [hsz.out, HL.out]; rfl) (bytes_one _) ?_; intro w1 hW1 hO1))
    have hB1 := (hB.alloc (.cells #[Value.int IntKind.u8 0, Value.int IntKind.u8 0, Value.int IntKind.u8 0, Value.int IntKind.u8 0, Value.int IntKind.u8 0, Value.int IntKind.u8 0, Value.int IntKind.u8 0, Value.int IntKind.u8 0, Value.int IntKind.u8 0, Value.int IntKind.u8 0, Value.int IntKind.u8 0, Value.int IntKind.u8 0, Value.int IntKind.u8 0, Value.int IntKind.u8 0, Value.int IntKind.u8 0, Value.int IntKind.u8 0] 39)).only hO1 (by omega)
    have hK1 : Keep g w w1 := Keep.ofBelow (hO1.below ((Below.refl _ _).alloc (Nat.le_refl _) _) (Nat.le_refl _))
    clear hO1 hB
    have hgn : w.heap.size ≠ g := by omega
    go_loopw [10] (fun i wr => ∃ k : Nat, k ≤ 16 ∧ i = .int .i64 k ∧ Blk wr g 39 (byteCells (partN M l k)) ∧ Blk wr w.heap.size 39 (byteCells l) ∧ Keep g w wr) (fun i _ => 16 - (intOf i).toNat)
    case atStart => exact ⟨0, by omega, rfl, by simpa [partN] using hB1, hW1, hK1⟩
    case round =>
      obtain ⟨k, hk, rfl, hBr, hWr, hbr⟩ := hrel
      by_cases hlt : k < 16
      · have hpl := partN_len M l k 16 HML.out HL.out hk
        have hfr : wr.drew.frozen? ⟨g, k, none⟩ = false := hBr.frozen k
        obtain ⟨c0, hcell⟩ : ∃ c, wr.drew.cell? ⟨g, k, none⟩ = some c := by
          have := hBr.cell k
          rw [cellD _ k (by omega)] at this
          exact ⟨_, this⟩
        obtain ⟨J, hJ⟩ : ∃ J, (k + 4 * (k % 4) * 3) % 16 = J := ⟨_, rfl⟩
        have hJl : J < 16 := by omega
        have hJi : (J : Int) < 16 := by omega
        obtain ⟨m, hm⟩ : ∃ m : Nat, 4 * (k % 4) = m := ⟨_, rfl⟩
        obtain ⟨m3, hm3⟩ : ∃ m3 : Nat, m * 3 = m3 := ⟨_, rfl⟩
        obtain ⟨s, hs⟩ : ∃ s : Nat, k + m3 = s := ⟨_, rfl⟩
        have e1 : IntKind.i64.wrap (4 * ((k : Int) % 4)) = (m : Int) := by rw [IntWalk.i64_in _ (by omega)]; omega
        have e2 : IntKind.i64.wrap ((m : Int) * 3) = (m3 : Int) := by rw [IntWalk.i64_in _ (by omega)]; omega
        have e3 : IntKind.i64.wrap ((k : Int) + (m3 : Int)) = (s : Int) := by rw [IntWalk.i64_in _ (by omega)]; omega
        have e5 : (s : Int) % 16 = (J : Int) := by omega
        have e4 : (s : Int).tmod 16 = (J : Int) := by rw [Int.tmod_eq_emod_of_nonneg (by omega)]; exact e5
        have hcy := HCY.out wr.drew (hWr.drewN 1) J hJl
        have hst := partN_set M l k 16 HML.out HL.out hlt
        rw [HMK.out k hlt, hJ] at hst
        have hnx := hBr.set_ k (.int .u8 ((l.getD J 0 : Nat) : Int))
        rw [set_byteCells, hst] at hnx
        generalize l.getD J 0 = y1 at *
        have HNX := Lib.hid hnx; clear hnx hst hpl
        have HWr := Lib.hid hWr; clear hWr hBr hW1 hB1
        go_wp2_with fail
        go_still_tail 13, (by kernel_rfl)
        change wpList _ _ _ _ _ wr.drew
        have hbr2 : Keep g w wr.drew := hbr.drewN 1
        have hnx2 : Blk (wr.drew.setCell ⟨g, k, none⟩ (.int .u8 (y1 : Int))) g 39 (byteCells (partN M l (k + 1))) := HNX.out
        have hW2 : Blk (wr.drew.setCell ⟨g, k, none⟩ (.int .u8 (y1 : Int))) w.heap.size 39 (byteCells l) := (HWr.out.drewN 1).far hgn _
        have HNX2 := Lib.hid hnx2; clear hnx2 HNX
        have HW2 := Lib.hid hW2; clear hW2 HWr
        generalize wr.drew = w2 at *
        go_wp2
        go_roundw
        case rel => exact ⟨k + 1, by omega, by go_num, HNX2.out, HW2.out, hbr2.setCell _ _⟩
        case measure => simp [intOf]; omega
      · obtain rfl : k = 16 := by omega
        rw [partN_end M l 16 HML.out HL.out] at hBr
        go_wp2
        go_returns
        exact ⟨rfl, hBr, hbr⟩

/-- the function f boxes a byte as F does -/
def BoxIs (f : Nat) (F : Nat → Nat) : Prop := ∀ (a : Nat) (w : World), a < 256 → Calls Tryz.prog f #[.int .u8 a] w fun e w' => e = .returned (.int .u8 (F a : Nat)) ∧ ∃ n, w' = w.drewN n
set_option maxHeartbeats 2000000 in
set_option maxRecDepth 100000 in
theorem boxes_any (f : Nat) (F : Nat → Nat) (hf : BoxIs f F) (hF : f = 137 ∨ f = 136) (g : Nat) (l : List Nat) (hl : l.length = 16) (hb : Byt l) (w : World) (hB : Blk w g 39 (byteCells l)) :
    Calls Tryz.prog 135 #[.pointer (some ⟨g, 0, none⟩), .func (.func f) #[] #[]] w fun e w' => e = .returned (.tuple #[]) ∧ Blk w' g 39 (byteCells (l.map F)) ∧ Keep g w w' := by
  have hml : (l.map F).length = 16 := by rw [List.length_map, hl]
  have hmk : ∀ k, k < 16 → (l.map F).getD k 0 = F (l.getD k 0) := fun k hk => by
    rw [getD_of _ _ (by omega), getD_of _ _ (by omega), List.getElem_map]
  generalize l.map F = M at *
  have HX := Lib.hid (fun k => hb.at_ k)
  have HL := Lib.hid hl; clear hl hb
  have HML := Lib.hid hml; clear hml
  have HMK := Lib.hid hmk; clear hmk
  have HF := Lib.hid hf; clear hf
  rcases hF with rfl | rfl
  all_goals
    go_enter Tryz.func135, Tryz.ntmps135
    go_wp2
    go_loopw [5] (fun i wr => ∃ k : Nat, k ≤ 16 ∧ i = .int .i64 k ∧ Blk wr g 39 (byteCells (partN M l k)) ∧ Keep g w wr) (fun i _ => 16 - (intOf i).toNat)
    case atStart => exact ⟨0, by omega, rfl, by simpa [partN] using hB, Keep.refl _ _⟩
    case round =>
      obtain ⟨k, hk, rfl, hBr, hbr⟩ := hrel
      by_cases hlt : k < 16
      · have hpl := partN_len M l k 16 HML.out HL.out hk
        have hfr : wr.drew.frozen? ⟨g, k, none⟩ = false := hBr.frozen k
        have hcell : wr.drew.cell? ⟨g, k, none⟩ = some (.int .u8 (l.getD k 0 : Nat)) := by
          have := hBr.cell k
          rw [cellD _ k (by omega), partN_at M l k 16 HML.out hlt] at this
          exact this
        have hC := Lib.hid (fun W => HF.out (l.getD k 0) W (HX.out k))
        have hst := partN_set M l k 16 HML.out HL.out hlt
        rw [HMK.out k hlt] at hst
        have hnx := fun n => (hBr.drewN n).set_ k (.int .u8 ((F (l.getD k 0) : Nat) : Int))
        rw [set_byteCells, hst] at hnx
        generalize F (l.getD k 0) = y1 at *
        generalize l.getD k 0 = x1 at *
        have HNX := Lib.hid hnx; clear hnx hst hpl
        clear hBr
        go_wp2_with fail
        refine wp_region_tree (.q 0 (.q 1 (.q 2 (.q 3 (.q 4 (.q 5 (.q 6 (.q 9 (.e [7] fun _ => .e [8] fun _ => .q 10 (.e [11] fun _ => .done)))))))))) (fun _ => True) rfl (by kernel_rfl) (fun _ _ d _ _ h => by cases d <;> exact h) ?_
        change wpT _ _ _ _ _ _ wr.drew
        iterate 8 (refine t_q rfl rfl trivial _ (fun W hW => by (go_simp; rfl)) ?_; go_simp)
        refine t_e rfl rfl fun K hK => ?_
        go_simp
        refine hK _ _ trivial ?_
        clear hK K
        refine t_e rfl rfl fun K hK => ?_
        go_simp
        refine (hC.out _).mono ?_
        rintro e w3 ⟨rfl, n3, rfl⟩
        refine hK _ _ trivial ?_
        clear hK K
        go_simp
        refine t_q rfl rfl trivial _ (fun W hW => by (go_simp; rfl)) ?_
        go_simp
        refine t_e rfl rfl fun K hK => ?_
        have hcell2 : wr.cell? ⟨g, k, none⟩ = some (.int .u8 (x1 : Int)) := hcell
        have hfr2 : wr.frozen? ⟨g, k, none⟩ = false := hfr
        go_simp
        refine hK _ _ trivial ?_
        clear hK K hcell hfr hcell2 hfr2
        refine t_done ?_
        have hnx := HNX.out (1 + n3)
        have hbr2 := (hbr.drewN (1 + n3)).setCell k (.int .u8 (y1 : Int))
        clear HNX hbr
        generalize (wr.drewN (1 + n3)).setCell ⟨g, k, none⟩ (.int .u8 (y1 : Int)) = w4 at *
        have HNX := Lib.hid hnx; clear hnx
        go_wp2
        go_roundw
        case rel => exact ⟨k + 1, by omega, by go_num, HNX.out, hbr2⟩
        case measure => simp [intOf]; omega
      · obtain rfl : k = 16 := by omega
        rw [partN_end M l 16 HML.out HL.out] at hBr
        go_wp2
        go_returns
        exact ⟨rfl, hBr, hbr⟩
end Go.Proofs.YtnkgglmfoimbhaaGreatDoor
