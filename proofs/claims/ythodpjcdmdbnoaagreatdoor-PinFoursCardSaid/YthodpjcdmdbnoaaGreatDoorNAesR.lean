/- The contracts of aes.rounds, aes.with, aes.rows, aes.boxes, aes.columns. The contract of aes.columns. A region that draws its order and whose last operation waits for all others: loads are taken ahead of quiet calls under a condition on the world that the last operation need not keep. -/
import Derived.Test.YthodpjcdmdbnoaaGreatDoorNAG
import Derived.Test.YthodpjcdmdbnoaaGreatDoorNPB
import Derived.Handy
import Derived.Test.YthodpjcdmdbnoaaGreatDoorNKit
/- The contracts of aes.rounds, aes.with, aes.rows, aes.boxes, aes.columns. -/
namespace Go.Proofs.YthodpjcdmdbnoaaGreatDoor
open Go Go.RowKit Pr

/-- all old blocks but g are as they were -/
structure Keep (g : Nat) (w w' : World) : Prop where
 os : w'.os = w.os
 tape : w'.tape = w.tape
 output : w'.output = w.output
 size : w.heap.size ≤ w'.heap.size
 block : ∀ i, i < w.heap.size → i ≠ g → w'.heap[i]? = w.heap[i]?
theorem Keep.refl (g : Nat) (w : World) : Keep g w w := ⟨rfl, rfl, rfl, Nat.le_refl _, fun _ _ _ => rfl⟩
theorem Keep.trans {g : Nat} {a b c : World} (h : Keep g a b) (k : Keep g b c) : Keep g a c :=
 ⟨k.os.trans h.os, k.tape.trans h.tape, k.output.trans h.output, Nat.le_trans h.size k.size, fun i hi hn => (k.block i (Nat.lt_of_lt_of_le hi h.size) hn).trans (h.block i hi hn)⟩
theorem Keep.drewN {g : Nat} {a b : World} (h : Keep g a b) (n : Nat) : Keep g a (b.drewN n) := ⟨h.os, h.tape, h.output, h.size, h.block⟩
theorem Keep.setCell {g : Nat} {a b : World} (h : Keep g a b) (i : Nat) (u : Value) : Keep g a (b.setCell ⟨g, i, none⟩ u) :=
 h.trans ⟨rfl, rfl, rfl, by simp [World.setCell], fun k _ hk => Below.heap_setCell b ⟨g, i, none⟩ u k hk⟩
theorem Keep.ofBelow {g : Nat} {a b : World} (h : Below a.heap.size a b) : Keep g a b := ⟨h.os, h.tape, h.output, h.size, fun i hi _ => h.block i hi⟩
theorem Keep.alloc {g : Nat} {a b : World} (h : Keep g a b) (o : Obj) : Keep g a (b.alloc o) := h.trans (Keep.ofBelow ((Below.refl _ _).alloc (Nat.le_refl _) o))
theorem Keep.below {g B : Nat} {a w w' : World} (h : Keep g w w') (hb : Below B a w) (hB : B ≤ w.heap.size) (hg : B ≤ g) : Below B a w' :=
 ⟨h.os.trans hb.os, h.tape.trans hb.tape, h.output.trans hb.output, Nat.le_trans hb.size h.size, fun i hi => (h.block i (by omega) (by omega)).trans (hb.block i hi)⟩
theorem Blk.keep {g g' : Nat} {t : TypeId} {cs : Array Value} {w w' : World} (h : Blk w g' t cs) (ho : Keep g w w') (hne : g' ≠ g) : Blk w' g' t cs := (ho.block g' h.lt hne).trans h
theorem Bs.keep {g b o : Nat} {l : List Nat} {w w' : World} (h : Bs w b o l) (ho : Keep g w w') (hne : b ≠ g) : Bs w' b o l := fun j v hv =>
 (World.cell?_of_block (ho.block b (block_lt_of_cell (h j v hv)) hne)).trans (h j v hv)

/-- the first k of the new, the rest of the old -/
def partN (m l : List Nat) (k : Nat) : List Nat := m.take k ++ l.drop k
theorem partN_len (m l : List Nat) (k n : Nat) (hm : m.length = n) (hl : l.length = n) (hk : k ≤ n) : (partN m l k).length = n := by simp [partN, hm, hl]; omega
theorem partN_at (m l : List Nat) (k n : Nat) (hm : m.length = n) (hk : k < n) : (partN m l k).getD k 0 = l.getD k 0 := by
 unfold partN
 rw [List.getD_eq_getElem?_getD, List.getD_eq_getElem?_getD, List.getElem?_append_right (by simp; omega), List.getElem?_drop]
 congr 2
 simp; omega
theorem partN_set (m l : List Nat) (k n : Nat) (hm : m.length = n) (hl : l.length = n) (hk : k < n) : (partN m l k).set k (m.getD k 0) = partN m l (k + 1) := by
 apply List.ext_getElem?
 intro i
 have h1 : (m.take k).length = k := by simp; omega
 have h2 : (m.take (k + 1)).length = k + 1 := by simp; omega
 have h3 := partN_len m l k n hm hl (by omega)
 unfold partN at *
 rw [List.getElem?_set]
 by_cases hik : k = i
 ·
  subst hik
  rw [if_pos rfl, if_pos (by omega), List.getElem?_append_left (by omega), List.getElem?_take_of_lt (by omega), List.getElem?_eq_getElem (by omega), getD_of _ _ (by omega)]
 ·
  rw [if_neg hik]
  by_cases hlt : i < k
  ·
   rw [List.getElem?_append_left (by omega), List.getElem?_append_left (by omega), List.getElem?_take_of_lt (by omega), List.getElem?_take_of_lt (by omega)]
  ·
   rw [List.getElem?_append_right (by omega), List.getElem?_append_right (by omega), h1, h2, List.getElem?_drop, List.getElem?_drop]
   congr 1
   omega
theorem partN_end (m l : List Nat) (n : Nat) (hm : m.length = n) (hl : l.length = n) : partN m l n = m := by
 unfold partN
 rw [List.take_of_length_le (by omega), List.drop_of_length_le (by omega), List.append_nil]
theorem cellD (l : List Nat) (k : Nat) (hk : k < l.length) : (byteCells l)[k]? = some (.int .u8 (l.getD k 0 : Nat)) := by
 rw [get_byteCells l k hk, getD_of _ _ hk]
theorem Bs.cellD {w : World} {b o : Nat} {l : List Nat} (h : Bs w b o l) (j : Nat) (hj : j < l.length) : w.cell? ⟨b, o + j, none⟩ = some (.int .u8 (l.getD j 0 : Nat)) := by
 rw [h.cell j hj, getD_of _ _ hj]

theorem rounds16 (A : Option Addr) (cp : Nat) (w : World) : Calls Tryz.prog 108 #[.slice A 16 cp] w fun e w' => e = .returned (.int .i64 10) ∧ w = w' := by
 go_enter Tryz.func108, Tryz.ntmps108
 go_wp2
 go_ret
 exact ⟨rfl, rfl⟩

set_option maxHeartbeats 2000000 in
set_option maxRecDepth 100000 in
theorem with_any (g : Nat) (l ws : List Nat) (r n cp : Nat) (hl : l.length = 16) (hlb : Byt l) (hwb : Byt ws) (hr : 16 * r + 16 ≤ n) (hn : ws.length = n) (hn2 : n ≤ 1000) (b o : Nat) (w : World) (hB : Blk w g 113 (byteCells l)) (hA : Bs w b o ws) (hne : b ≠ g) :
    Calls Tryz.prog 109 #[.pointer (some ⟨g, 0, none⟩), .slice (some ⟨b, o, none⟩) n cp, .int .i64 r] w fun e w' => e = .returned (.tuple #[]) ∧ Blk w' g 113 (byteCells (withG l ws r)) ∧ Keep g w w' := by
 have hml := withG_len l ws r
 have hmk : ∀ k, k < 16 → (withG l ws r).getD k 0 = l.getD k 0 ^^^ ws.getD (16 * r + k) 0 := fun k hk => rangeD _ _ _ hk
 generalize withG l ws r = M at *
 have e1 : IntKind.i64.wrap (16 * (r : Int)) = ((16 * r : Nat) : Int) := by rw [IntWalk.i64_in _ (by omega)]; omega
 generalize 16 * r = R at *
 have HX := Lib.hid (fun k => hlb.at_ k)
 have HY := Lib.hid (fun k => hwb.at_ k)
 have hcy : ∀ W k, k < 16 → Keep g w W → W.cell? ⟨b, o + (R + k), none⟩ = some (.int .u8 (ws.getD (R + k) 0 : Nat)) := fun W k hk hW => (hA.keep hW hne).cellD (R + k) (by omega)
 have HCY := Lib.hid hcy; clear hcy
 have HL := Lib.hid hl; clear hl
 have HML := Lib.hid hml; clear hml
 have HMK := Lib.hid hmk; clear hmk
 clear hA hlb hwb hn
 go_enter Tryz.func109, Tryz.ntmps109
 go_wp2
 go_loopw [7] (fun i wr => ∃ k : Nat, k ≤ 16 ∧ i = .int .i64 k ∧ Blk wr g 113 (byteCells (partN M l k)) ∧ Keep g w wr) (fun i _ => 16 - (intOf i).toNat)
 case atStart => exact ⟨0, by omega, rfl, by simpa [partN] using hB, Keep.refl _ _⟩
 case round =>
  obtain ⟨k, hk, rfl, hBr, hbr⟩ := hrel
  by_cases hlt : k < 16
  ·
   have hpl := partN_len M l k 16 HML.out HL.out hk
   have hcell : wr.drew.cell? ⟨g, k, none⟩ = some (.int .u8 (l.getD k 0 : Nat)) := by
    have := hBr.cell k
    rw [cellD _ k (by omega), partN_at M l k 16 HML.out hlt] at this
    exact this
   have hfr : wr.drew.frozen? ⟨g, k, none⟩ = false := hBr.frozen k
   have hcy := HCY.out wr.drew k hlt (hbr.drewN 1)
   have hX := u8_xor_nat _ _ (HX.out k) (HY.out (R + k))
   have hst := partN_set M l k 16 HML.out HL.out hlt
   rw [HMK.out k hlt] at hst
   have hnx := hBr.set_ k (.int .u8 ((l.getD k 0 ^^^ ws.getD (R + k) 0 : Nat) : Int))
   rw [set_byteCells, hst] at hnx
   generalize l.getD k 0 = x1 at *
   generalize ws.getD (R + k) 0 = y1 at *
   have e2 : IntKind.i64.wrap ((R : Int) + (k : Int)) = ((R + k : Nat) : Int) := by rw [IntWalk.i64_in _ (by omega)]; omega
   have hRk : R + k < n := by omega
   obtain ⟨T, hT⟩ : ∃ T, R + k = T := ⟨_, rfl⟩
   rw [hT] at hcy hRk e2
   rw [← hX] at hnx
   have HNX := Lib.hid hnx; clear hnx hst hX hpl
   clear hBr
   go_wp2_with fail
   go_still_tail 15, (by kernel_rfl)
   change wpList _ _ _ _ _ wr.drew
   have hbr2 : Keep g w wr.drew := hbr.drewN 1
   have hnx2 : Blk (wr.drew.setCell ⟨g, k, none⟩ (.int .u8 (bits .xor .u8 (x1 : Int) (y1 : Int)))) g 113 (byteCells (partN M l (k + 1))) := HNX.out
   have HNX2 := Lib.hid hnx2; clear hnx2 HNX
   generalize wr.drew = w2 at *
   go_wp2
   go_roundw
   case rel => exact ⟨k + 1, by omega, by go_num, HNX2.out, hbr2.setCell _ _⟩
   case measure => simp [intOf]; omega
  ·
   obtain rfl : k = 16 := by omega
   rw [partN_end M l 16 HML.out HL.out] at hBr
   go_wp2
   go_returns
   exact ⟨rfl, hBr, hbr⟩

theorem info_16u8 : (Tryz.prog.info? 113).map (·.size) = some 16 := by kernel_rfl
set_option maxHeartbeats 2000000 in
set_option maxRecDepth 100000 in
theorem rows_any (g : Nat) (l : List Nat) (t : Nat) (ht : t = 1 ∨ t = 3) (hl : l.length = 16) (w : World) (hB : Blk w g 113 (byteCells l)) :
    Calls Tryz.prog 111 #[.pointer (some ⟨g, 0, none⟩), .int .i64 t] w fun e w' => e = .returned (.tuple #[]) ∧ Blk w' g 113 (byteCells (rowsG l t)) ∧ Keep g w w' := by
 have hml := rowsG_len l t
 have hmk : ∀ k, k < 16 → (rowsG l t).getD k 0 = l.getD ((k + 4 * (k % 4) * t) % 16) 0 := fun k hk => rangeD _ _ _ hk
 generalize rowsG l t = M at *
 have hgl := hB.lt
 have hsz := Lib.hid (size_byteCells l)
 have HL := Lib.hid hl; clear hl
 have HML := Lib.hid hml; clear hml
 have HMK := Lib.hid hmk; clear hmk
 have hcy : ∀ W : World, Blk W w.heap.size 113 (byteCells l) → ∀ j, j < 16 → W.cell? ⟨w.heap.size, j, none⟩ = some (.int .u8 (l.getD j 0 : Nat)) := fun W hW j hj => by
  rw [hW.cell j, cellD _ j (by rw [HL.out]; exact hj)]
 have HCY := Lib.hid hcy; clear hcy
 rcases ht with rfl | rfl
 ·
  go_enter Tryz.func111, Tryz.ntmps111
  go_wp2_with (first
   | (refine wpList_load_row rfl 113 (.tmp 8) rfl g rfl 113 _ (0,0) _ hB Tryz.underlying113 rfl (by rw [info_16u8, hsz.out, HL.out]) ?_)
   | (refine wpList_store_all rfl 113 (.tmp 4) (.tmp 9) rfl w.heap.size (byteCells l) rfl rfl 113 _ (Blk.new w _ _) (by rw [info_16u8, hsz.out, HL.out]) (by rw [hsz.out, HL.out]; rfl) (bytes_one _) ?_; intro w1 hW1 hO1))
  have hB1 := (hB.alloc (.cells #[Value.int IntKind.u8 0, Value.int IntKind.u8 0, Value.int IntKind.u8 0, Value.int IntKind.u8 0, Value.int IntKind.u8 0, Value.int IntKind.u8 0, Value.int IntKind.u8 0, Value.int IntKind.u8 0, Value.int IntKind.u8 0, Value.int IntKind.u8 0, Value.int IntKind.u8 0, Value.int IntKind.u8 0, Value.int IntKind.u8 0, Value.int IntKind.u8 0, Value.int IntKind.u8 0, Value.int IntKind.u8 0] 113)).only hO1 (by omega)
  have hK1 : Keep g w w1 := Keep.ofBelow (hO1.below ((Below.refl _ _).alloc (Nat.le_refl _) _) (Nat.le_refl _))
  clear hO1 hB
  have hgn : w.heap.size ≠ g := by omega
  go_loopw [10] (fun i wr => ∃ k : Nat, k ≤ 16 ∧ i = .int .i64 k ∧ Blk wr g 113 (byteCells (partN M l k)) ∧ Blk wr w.heap.size 113 (byteCells l) ∧ Keep g w wr) (fun i _ => 16 - (intOf i).toNat)
  case atStart => exact ⟨0, by omega, rfl, by simpa [partN] using hB1, hW1, hK1⟩
  case round =>
   obtain ⟨k, hk, rfl, hBr, hWr, hbr⟩ := hrel
   by_cases hlt : k < 16
   ·
    have hpl := partN_len M l k 16 HML.out HL.out hk
    have hfr : wr.drew.frozen? ⟨g, k, none⟩ = false := hBr.frozen k
    obtain ⟨c0, hcell⟩ : ∃ c, wr.drew.cell? ⟨g, k, none⟩ = some c := by
     have := hBr.cell k
     rw [cellD _ k (by omega)] at this
     exact ⟨_, this⟩
    obtain ⟨J, hJ⟩ : ∃ J, (k + 4 * (k % 4) * 1) % 16 = J := ⟨_, rfl⟩
    have hJl : J < 16 := by omega
    have hJi : (J : Int) < 16 := by omega
    obtain ⟨m, hm⟩ : ∃ m : Nat, 4 * (k % 4) = m := ⟨_, rfl⟩
    obtain ⟨m3, hm3⟩ : ∃ m3 : Nat, m * 1 = m3 := ⟨_, rfl⟩
    obtain ⟨s, hs⟩ : ∃ s : Nat, k + m3 = s := ⟨_, rfl⟩
    have e1 : IntKind.i64.wrap (4 * ((k : Int) % 4)) = (m : Int) := by rw [IntWalk.i64_in _ (by omega)]; omega
    have e2 : IntKind.i64.wrap (m : Int) = (m3 : Int) := by rw [IntWalk.i64_in _ (by omega)]; omega
    have e3 : IntKind.i64.wrap ((k : Int) + (m3 : Int)) = (s : Int) := by rw [IntWalk.i64_in _ (by omega)]; omega
    have e5 : (s : Int) % 16 = (J : Int) := by omega
    have e4 : (s : Int).tmod 16 = (J : Int) := by rw [Int.tmod_eq_emod_of_nonneg (by omega)]; exact e5
    have hcy := HCY.out wr.drew (hWr.drewN 1) J hJl
    have hst := partN_set M l k 16 HML.out HL.out hlt
    rw [HMK.out k hlt, hJ] at hst
    have hnx := hBr.set_ k (.int .u8 ((l.getD J 0 : Nat) : Int))
    rw [set_byteCells, hst] at hnx
    generalize l.getD J 0 = y1 at *
    have HNX := Lib.hid hnx; clear hnx hst hpl
    have HWr := Lib.hid hWr; clear hWr hBr hW1 hB1
    go_wp2_with fail
    go_still_tail 13, (by kernel_rfl)
    change wpList _ _ _ _ _ wr.drew
    have hbr2 : Keep g w wr.drew := hbr.drewN 1
    have hnx2 : Blk (wr.drew.setCell ⟨g, k, none⟩ (.int .u8 (y1 : Int))) g 113 (byteCells (partN M l (k + 1))) := HNX.out
    have hW2 : Blk (wr.drew.setCell ⟨g, k, none⟩ (.int .u8 (y1 : Int))) w.heap.size 113 (byteCells l) := (HWr.out.drewN 1).far hgn _
    have HNX2 := Lib.hid hnx2; clear hnx2 HNX
    have HW2 := Lib.hid hW2; clear hW2 HWr
    generalize wr.drew = w2 at *
    go_wp2
    go_roundw
    case rel => exact ⟨k + 1, by omega, by go_num, HNX2.out, HW2.out, hbr2.setCell _ _⟩
    case measure => simp [intOf]; omega
   ·
    obtain rfl : k = 16 := by omega
    rw [partN_end M l 16 HML.out HL.out] at hBr
    go_wp2
    go_returns
    exact ⟨rfl, hBr, hbr⟩
 ·
  go_enter Tryz.func111, Tryz.ntmps111
  go_wp2_with (first
   | (refine wpList_load_row rfl 113 (.tmp 8) rfl g rfl 113 _ (0,0) _ hB Tryz.underlying113 rfl (by rw [info_16u8, hsz.out, HL.out]) ?_)
   | (refine wpList_store_all rfl 113 (.tmp 4) (.tmp 9) rfl w.heap.size (byteCells l) rfl rfl 113 _ (Blk.new w _ _) (by rw [info_16u8, hsz.out, HL.out]) (by rw [hsz.out, HL.out]; rfl) (bytes_one _) ?_; intro w1 hW1 hO1))
  have hB1 := (hB.alloc (.cells #[Value.int IntKind.u8 0, Value.int IntKind.u8 0, Value.int IntKind.u8 0, Value.int IntKind.u8 0, Value.int IntKind.u8 0, Value.int IntKind.u8 0, Value.int IntKind.u8 0, Value.int IntKind.u8 0, Value.int IntKind.u8 0, Value.int IntKind.u8 0, Value.int IntKind.u8 0, Value.int IntKind.u8 0, Value.int IntKind.u8 0, Value.int IntKind.u8 0, Value.int IntKind.u8 0, Value.int IntKind.u8 0] 113)).only hO1 (by omega)
  have hK1 : Keep g w w1 := Keep.ofBelow (hO1.below ((Below.refl _ _).alloc (Nat.le_refl _) _) (Nat.le_refl _))
  clear hO1 hB
  have hgn : w.heap.size ≠ g := by omega
  go_loopw [10] (fun i wr => ∃ k : Nat, k ≤ 16 ∧ i = .int .i64 k ∧ Blk wr g 113 (byteCells (partN M l k)) ∧ Blk wr w.heap.size 113 (byteCells l) ∧ Keep g w wr) (fun i _ => 16 - (intOf i).toNat)
  case atStart => exact ⟨0, by omega, rfl, by simpa [partN] using hB1, hW1, hK1⟩
  case round =>
   obtain ⟨k, hk, rfl, hBr, hWr, hbr⟩ := hrel
   by_cases hlt : k < 16
   ·
    have hpl := partN_len M l k 16 HML.out HL.out hk
    have hfr : wr.drew.frozen? ⟨g, k, none⟩ = false := hBr.frozen k
    obtain ⟨c0, hcell⟩ : ∃ c, wr.drew.cell? ⟨g, k, none⟩ = some c := by
     have := hBr.cell k
     rw [cellD _ k (by omega)] at this
     exact ⟨_, this⟩
    obtain ⟨J, hJ⟩ : ∃ J, (k + 4 * (k % 4) * 3) % 16 = J := ⟨_, rfl⟩
    have hJl : J < 16 := by omega
    have hJi : (J : Int) < 16 := by omega
    obtain ⟨m, hm⟩ : ∃ m : Nat, 4 * (k % 4) = m := ⟨_, rfl⟩
    obtain ⟨m3, hm3⟩ : ∃ m3 : Nat, m * 3 = m3 := ⟨_, rfl⟩
    obtain ⟨s, hs⟩ : ∃ s : Nat, k + m3 = s := ⟨_, rfl⟩
    have e1 : IntKind.i64.wrap (4 * ((k : Int) % 4)) = (m : Int) := by rw [IntWalk.i64_in _ (by omega)]; omega
    have e2 : IntKind.i64.wrap ((m : Int) * 3) = (m3 : Int) := by rw [IntWalk.i64_in _ (by omega)]; omega
    have e3 : IntKind.i64.wrap ((k : Int) + (m3 : Int)) = (s : Int) := by rw [IntWalk.i64_in _ (by omega)]; omega
    have e5 : (s : Int) % 16 = (J : Int) := by omega
    have e4 : (s : Int).tmod 16 = (J : Int) := by rw [Int.tmod_eq_emod_of_nonneg (by omega)]; exact e5
    have hcy := HCY.out wr.drew (hWr.drewN 1) J hJl
    have hst := partN_set M l k 16 HML.out HL.out hlt
    rw [HMK.out k hlt, hJ] at hst
    have hnx := hBr.set_ k (.int .u8 ((l.getD J 0 : Nat) : Int))
    rw [set_byteCells, hst] at hnx
    generalize l.getD J 0 = y1 at *
    have HNX := Lib.hid hnx; clear hnx hst hpl
    have HWr := Lib.hid hWr; clear hWr hBr hW1 hB1
    go_wp2_with fail
    go_still_tail 13, (by kernel_rfl)
    change wpList _ _ _ _ _ wr.drew
    have hbr2 : Keep g w wr.drew := hbr.drewN 1
    have hnx2 : Blk (wr.drew.setCell ⟨g, k, none⟩ (.int .u8 (y1 : Int))) g 113 (byteCells (partN M l (k + 1))) := HNX.out
    have hW2 : Blk (wr.drew.setCell ⟨g, k, none⟩ (.int .u8 (y1 : Int))) w.heap.size 113 (byteCells l) := (HWr.out.drewN 1).far hgn _
    have HNX2 := Lib.hid hnx2; clear hnx2 HNX
    have HW2 := Lib.hid hW2; clear hW2 HWr
    generalize wr.drew = w2 at *
    go_wp2
    go_roundw
    case rel => exact ⟨k + 1, by omega, by go_num, HNX2.out, HW2.out, hbr2.setCell _ _⟩
    case measure => simp [intOf]; omega
   ·
    obtain rfl : k = 16 := by omega
    rw [partN_end M l 16 HML.out HL.out] at hBr
    go_wp2
    go_returns
    exact ⟨rfl, hBr, hbr⟩

/-- the function f boxes a byte as F does -/
def BoxIs (f : Nat) (F : Nat → Nat) : Prop := ∀ (a : Nat) (w : World), a < 256 → Calls Tryz.prog f #[.int .u8 a] w fun e w' => e = .returned (.int .u8 (F a : Nat)) ∧ ∃ n, w' = w.drewN n
set_option maxHeartbeats 2000000 in
set_option maxRecDepth 100000 in
theorem boxes_any (f : Nat) (F : Nat → Nat) (hf : BoxIs f F) (hF : f = 114 ∨ f = 113) (g : Nat) (l : List Nat) (hl : l.length = 16) (hb : Byt l) (w : World) (hB : Blk w g 113 (byteCells l)) :
    Calls Tryz.prog 112 #[.pointer (some ⟨g, 0, none⟩), .func (.func f) #[] #[]] w fun e w' => e = .returned (.tuple #[]) ∧ Blk w' g 113 (byteCells (l.map F)) ∧ Keep g w w' := by
 have hml : (l.map F).length = 16 := by rw [List.length_map, hl]
 have hmk : ∀ k, k < 16 → (l.map F).getD k 0 = F (l.getD k 0) := fun k hk => by
  rw [getD_of _ _ (by omega), getD_of _ _ (by omega), List.getElem_map]
 generalize l.map F = M at *
 have HX := Lib.hid (fun k => hb.at_ k)
 have HL := Lib.hid hl; clear hl hb
 have HML := Lib.hid hml; clear hml
 have HMK := Lib.hid hmk; clear hmk
 have HF := Lib.hid hf; clear hf
 rcases hF with rfl | rfl
 all_goals
  go_enter Tryz.func112, Tryz.ntmps112
  go_wp2
  go_loopw [5] (fun i wr => ∃ k : Nat, k ≤ 16 ∧ i = .int .i64 k ∧ Blk wr g 113 (byteCells (partN M l k)) ∧ Keep g w wr) (fun i _ => 16 - (intOf i).toNat)
  case atStart => exact ⟨0, by omega, rfl, by simpa [partN] using hB, Keep.refl _ _⟩
  case round =>
   obtain ⟨k, hk, rfl, hBr, hbr⟩ := hrel
   by_cases hlt : k < 16
   ·
    have hpl := partN_len M l k 16 HML.out HL.out hk
    have hfr : wr.drew.frozen? ⟨g, k, none⟩ = false := hBr.frozen k
    have hcell : wr.drew.cell? ⟨g, k, none⟩ = some (.int .u8 (l.getD k 0 : Nat)) := by
     have := hBr.cell k
     rw [cellD _ k (by omega), partN_at M l k 16 HML.out hlt] at this
     exact this
    have hC := Lib.hid (fun W => HF.out (l.getD k 0) W (HX.out k))
    have hst := partN_set M l k 16 HML.out HL.out hlt
    rw [HMK.out k hlt] at hst
    have hnx := fun n => (hBr.drewN n).set_ k (.int .u8 ((F (l.getD k 0) : Nat) : Int))
    rw [set_byteCells, hst] at hnx
    generalize F (l.getD k 0) = y1 at *
    generalize l.getD k 0 = x1 at *
    have HNX := Lib.hid hnx; clear hnx hst hpl
    clear hBr
    go_wp2_with fail
    refine wp_region_tree (.q 0 (.q 1 (.q 2 (.q 3 (.q 4 (.q 5 (.q 6 (.q 9 (.e [7] fun _ => .e [8] fun _ => .q 10 (.e [11] fun _ => .done)))))))))) (fun _ => True) rfl (by kernel_rfl) (fun _ _ d _ _ h => by cases d <;> exact h) ?_
    change wpT _ _ _ _ _ _ wr.drew
    iterate 8 (refine t_q rfl rfl trivial _ (fun W hW => by (go_simp; rfl)) ?_; go_simp)
    refine t_e rfl rfl fun K hK => ?_
    go_simp
    refine hK _ _ trivial ?_
    clear hK K
    refine t_e rfl rfl fun K hK => ?_
    go_simp
    refine (hC.out _).mono ?_
    rintro e w3 ⟨rfl, n3, rfl⟩
    refine hK _ _ trivial ?_
    clear hK K
    go_simp
    refine t_q rfl rfl trivial _ (fun W hW => by (go_simp; rfl)) ?_
    go_simp
    refine t_e rfl rfl fun K hK => ?_
    have hcell2 : wr.cell? ⟨g, k, none⟩ = some (.int .u8 (x1 : Int)) := hcell
    have hfr2 : wr.frozen? ⟨g, k, none⟩ = false := hfr
    go_simp
    refine hK _ _ trivial ?_
    clear hK K hcell hfr hcell2 hfr2
    refine t_done ?_
    have hnx := HNX.out (1 + n3)
    have hbr2 := (hbr.drewN (1 + n3)).setCell k (.int .u8 (y1 : Int))
    clear HNX hbr
    generalize (wr.drewN (1 + n3)).setCell ⟨g, k, none⟩ (.int .u8 (y1 : Int)) = w4 at *
    have HNX := Lib.hid hnx; clear hnx
    go_wp2
    go_roundw
    case rel => exact ⟨k + 1, by omega, by go_num, HNX.out, hbr2⟩
    case measure => simp [intOf]; omega
   ·
    obtain rfl : k = 16 := by omega
    rw [partN_end M l 16 HML.out HL.out] at hBr
    go_wp2
    go_returns
    exact ⟨rfl, hBr, hbr⟩
end Go.Proofs.YthodpjcdmdbnoaaGreatDoor

/- The contract of aes.columns. -/
namespace Go.Proofs.YthodpjcdmdbnoaaGreatDoor
open Go Go.RowKit Pr

theorem info_4u8 : (Tryz.prog.info? 190).map (·.size) = some 4 := by kernel_rfl
set_option maxHeartbeats 4000000 in
set_option maxRecDepth 100000 in
theorem columns_any (g : Nat) (l m : List Nat) (hl : l.length = 16) (hb : Byt l) (hm : m.length = 4) (hmb : Byt m) (w : World) (hB : Blk w g 113 (byteCells l)) :
    Calls Tryz.prog 110 #[.pointer (some ⟨g, 0, none⟩), .agg (byteCells m)] w fun e w' => e = .returned (.tuple #[]) ∧ Blk w' g 113 (byteCells (columnsG l m)) ∧ Keep g w w' := by
 have hml := columnsG_len l m
 have hmk : ∀ k, k < 16 → (columnsG l m).getD k 0 = colTo l m k 4 := fun k hk => rangeD (fun i => colTo l m i 4) 16 k hk
 generalize columnsG l m = M at *
 have hgl := hB.lt
 have hsz := Lib.hid (size_byteCells l)
 have hszm := Lib.hid (size_byteCells m)
 have HL := Lib.hid hl; clear hl
 have HM := Lib.hid hm; clear hm
 have HML := Lib.hid hml; clear hml
 have HMK := Lib.hid hmk; clear hmk
 have HX := Lib.hid (fun k => hb.at_ k)
 have HY := Lib.hid (fun k => hmb.at_ k)
 have HC := Lib.hid (fun i k => colTo_lt (l := l) hmb i k)
 clear hb hmb
 obtain ⟨cm, hcm⟩ : ∃ cm, byteCells m = cm := ⟨_, rfl⟩
 rw [hcm] at hszm ⊢
 have HCM := Lib.hid hcm; clear hcm
 go_enter Tryz.func110, Tryz.ntmps110
 go_wp2_with (first
  | (refine wpList_load_row rfl 113 (.tmp 10) rfl g rfl 113 _ (0,0) _ (hB.alloc _) Tryz.underlying113 rfl (by rw [info_16u8, hsz.out, HL.out]) ?_)
  | (refine wpList_store_all rfl 113 (.tmp 4) (.tmp 11) rfl (w.heap.size + 1) (byteCells l) rfl rfl 113 _ (Blk.new2 w _ _ _) (by rw [info_16u8, hsz.out, HL.out]) (by rw [hsz.out, HL.out]; rfl) (bytes_one _) ?_; intro w1 hW1 hO1))
 have hB1 := ((hB.alloc (.cells cm 190)).alloc (.cells #[Value.int IntKind.u8 0, Value.int IntKind.u8 0, Value.int IntKind.u8 0, Value.int IntKind.u8 0, Value.int IntKind.u8 0, Value.int IntKind.u8 0, Value.int IntKind.u8 0, Value.int IntKind.u8 0, Value.int IntKind.u8 0, Value.int IntKind.u8 0, Value.int IntKind.u8 0, Value.int IntKind.u8 0, Value.int IntKind.u8 0, Value.int IntKind.u8 0, Value.int IntKind.u8 0, Value.int IntKind.u8 0] 113)).only hO1 (by omega)
 have hM1 := ((Blk.new w 190 cm).alloc (.cells #[Value.int IntKind.u8 0, Value.int IntKind.u8 0, Value.int IntKind.u8 0, Value.int IntKind.u8 0, Value.int IntKind.u8 0, Value.int IntKind.u8 0, Value.int IntKind.u8 0, Value.int IntKind.u8 0, Value.int IntKind.u8 0, Value.int IntKind.u8 0, Value.int IntKind.u8 0, Value.int IntKind.u8 0, Value.int IntKind.u8 0, Value.int IntKind.u8 0, Value.int IntKind.u8 0, Value.int IntKind.u8 0] 113)).only hO1 (by omega)
 rw [← HCM.out] at hM1
 have hK1 : Keep g w w1 := Keep.ofBelow (hO1.below (((Below.refl _ _).alloc (Nat.le_refl _) _).alloc (by simp) _) (by omega))
 clear hO1 hB
 have hgn : w.heap.size ≠ g := by omega
 have hgn2 : w.heap.size + 1 ≠ g := by omega
 go_loopw [12] (fun i wr => ∃ k : Nat, k ≤ 16 ∧ i = .int .i64 k ∧ Blk wr g 113 (byteCells (partN M l k)) ∧ Blk wr w.heap.size 190 (byteCells m) ∧ Blk wr (w.heap.size + 1) 113 (byteCells l) ∧ Keep g w wr) (fun i _ => 16 - (intOf i).toNat)
 case atStart => exact ⟨0, by omega, rfl, by simpa [partN] using hB1, hM1, hW1, hK1⟩
 case round =>
  obtain ⟨k, hk, rfl, hBr, hMr, hWr, hbr⟩ := hrel
  clear hB1 hM1 hW1 hK1
  by_cases hlt : k < 16
  ·
   have hpl := partN_len M l k 16 HML.out HL.out hk
   have hst := partN_set M l k 16 HML.out HL.out hlt
   rw [HMK.out k hlt] at hst
   obtain ⟨q, hq⟩ : ∃ q, k / 4 * 4 = q := ⟨_, rfl⟩
   obtain ⟨c0, hcell⟩ : ∃ c, wr.cell? ⟨g, k, none⟩ = some c := by
    have := hBr.cell k
    rw [cellD _ k (by omega)] at this
    exact ⟨_, this⟩
   have hfr := hBr.frozen k
   have hB2 := hBr.set_ k (.int .u8 ((0 : Nat) : Int))
   rw [set_byteCells] at hB2
   have HB2 := Lib.hid hB2; clear hB2 hBr
   have HMr := Lib.hid hMr; clear hMr
   have HWr := Lib.hid hWr; clear hWr
   have HST := Lib.hid hst; clear hst
   have hK2 : Keep g w (wr.setCell ⟨g, k, none⟩ (.int .u8 0)) := hbr.setCell _ _
   go_wp2
   have hdk : decide ((k : Int) < 16) = true := by rw [decide_eq_true_iff]; omega
   rw [hdk]
   clear hdk
   have hB3 : Blk (wr.setCell ⟨g, k, none⟩ (.int .u8 0)) g 113 (byteCells ((partN M l k).set k 0)) := HB2.out
   have hM3 : Blk (wr.setCell ⟨g, k, none⟩ (.int .u8 0)) w.heap.size 190 (byteCells m) := HMr.out.far hgn _
   have hW3 : Blk (wr.setCell ⟨g, k, none⟩ (.int .u8 0)) (w.heap.size + 1) 113 (byteCells l) := HWr.out.far hgn2 _
   clear HB2 HMr HWr hcell hfr hbr
   generalize wr.setCell ⟨g, k, none⟩ (.int .u8 0) = w3 at *
   go_loopw [24] (fun i wv => ∃ j : Nat, j ≤ 4 ∧ i = .int .i64 j ∧ Blk wv g 113 (byteCells ((partN M l k).set k (colTo l m k j))) ∧ Blk wv w.heap.size 190 (byteCells m) ∧ Blk wv (w.heap.size + 1) 113 (byteCells l) ∧ Keep g w wv) (fun i _ => 4 - (intOf i).toNat)
   case atStart => exact ⟨0, by omega, rfl, hB3, hM3, hW3, hK2⟩
   case round =>
    obtain ⟨j, hj, rfl, hBj, hMj, hWj, hbj⟩ := hrel
    clear hB3 hM3 hW3 hK2
    by_cases hjl : j < 4
    ·
     obtain ⟨s, hs⟩ : ∃ s, k % 4 + j = s := ⟨_, rfl⟩
     obtain ⟨t, ht⟩ : ∃ t, s % 4 = t := ⟨_, rfl⟩
     obtain ⟨J, hJ⟩ : ∃ J, k / 4 * 4 + t = J := ⟨_, rfl⟩
     have hJl : J < 16 := by omega
     have hJi : (J : Int) < 16 := by omega
     have e1 : IntKind.i64.wrap ((k : Int) % 4 + (j : Int)) = (s : Int) := by rw [IntWalk.i64_in _ (by omega)]; omega
     have e2 : (s : Int) % 4 = (t : Int) := by omega
     have e3 : (s : Int).tmod 4 = (t : Int) := by rw [Int.tmod_eq_emod_of_nonneg (by omega)]; exact e2
     have e4 : IntKind.i64.wrap ((k : Int) / 4 * 4 + (t : Int)) = (J : Int) := by rw [IntWalk.i64_in _ (by omega)]; omega
     have hsn : colTo l m k (j + 1) = colTo l m k j ^^^ mulG (m.getD j 0) (l.getD J 0) := by rw [← hJ, ← ht, ← hs]; rfl
     have hc1 : wr.drew.cell? ⟨g, k, none⟩ = some (.int .u8 (colTo l m k j : Nat)) := by
      have := hBj.cell k
      rw [cellD _ k (by rw [List.length_set, hpl]; exact hlt)] at this
      rw [getD_of _ _ (by rw [List.length_set, hpl]; exact hlt), List.getElem_set_self] at this
      exact this
     have hfr : wr.drew.frozen? ⟨g, k, none⟩ = false := hBj.frozen k
     have hc2 : wr.drew.cell? ⟨w.heap.size, j, none⟩ = some (.int .u8 (m.getD j 0 : Nat)) := by
      have := hMj.cell j
      rw [cellD _ j (by rw [HM.out]; exact hjl)] at this
      exact this
     have hc3 : wr.drew.cell? ⟨w.heap.size + 1, J, none⟩ = some (.int .u8 (l.getD J 0 : Nat)) := by
      have := hWj.cell J
      rw [cellD _ J (by rw [HL.out]; exact hJl)] at this
      exact this
     have hCM := Lib.hid (fun W => mul_any (m.getD j 0) (l.getD J 0) (HY.out j) (HX.out J) W)
     have hmg := mulG_lt (m.getD j 0) (l.getD J 0) (HY.out j)
     have hcl := HC.out k j
     have hnx := hBj.set_ k (.int .u8 ((colTo l m k (j + 1) : Nat) : Int))
     rw [set_byteCells, List.set_set] at hnx
     have HSN := Lib.hid hsn; clear hsn
     rw [HSN.out] at hnx
     generalize mulG (m.getD j 0) (l.getD J 0) = P at *
     have hX := u8_xor_nat _ P hcl hmg
     rw [← hX, ← HSN.out] at hnx
     clear hX
     have HNX := Lib.hid hnx; clear hnx
     generalize m.getD j 0 = a1 at *
     generalize l.getD J 0 = a2 at *
     have HMj := Lib.hid hMj; clear hMj
     have HWj := Lib.hid hWj; clear hWj hBj
     go_wp2_with fail
     go_still_tail 20, (by kernel_rfl)
     still_call ((hCM.out _).mono (fun e w' h => ⟨h.1, h.2.symm⟩))
     repeat still_step
     refine wpStill_nil ?_
     change wpList _ _ _ _ _ wr.drew
     have hbr2 : Keep g w wr.drew := hbj.drewN 1
     have hnx2 : Blk (wr.drew.setCell ⟨g, k, none⟩ (.int .u8 (bits .xor .u8 ((colTo l m k j : Nat) : Int) (P : Int)))) g 113 (byteCells ((partN M l k).set k (colTo l m k (j + 1)))) := HNX.out
     have hM2 : Blk (wr.drew.setCell ⟨g, k, none⟩ (.int .u8 (bits .xor .u8 ((colTo l m k j : Nat) : Int) (P : Int)))) w.heap.size 190 (byteCells m) := (HMj.out.drewN 1).far hgn _
     have hW2 : Blk (wr.drew.setCell ⟨g, k, none⟩ (.int .u8 (bits .xor .u8 ((colTo l m k j : Nat) : Int) (P : Int)))) (w.heap.size + 1) 113 (byteCells l) := (HWj.out.drewN 1).far hgn2 _
     have HNX2 := Lib.hid hnx2; clear hnx2 HNX
     have HM2 := Lib.hid hM2; clear hM2 HMj
     have HW2 := Lib.hid hW2; clear hW2 HWj
     clear hbj
     generalize wr.drew = w2 at *
     go_wp2
     go_roundw
     case rel => exact ⟨j + 1, by omega, by go_num, HNX2.out, HM2.out, HW2.out, hbr2.setCell _ _⟩
     case measure => simp [intOf]; omega
    ·
     obtain rfl : j = 4 := by omega
     rw [HST.out] at hBj
     go_wp2
     go_roundw
     case rel => exact ⟨k + 1, by omega, by go_num, hBj, hMj, hWj, hbj⟩
     case measure => simp [intOf]; omega
  ·
   obtain rfl : k = 16 := by omega
   rw [partN_end M l 16 HML.out HL.out] at hBr
   go_wp2
   go_returns
   exact ⟨rfl, hBr, hbr⟩
end Go.Proofs.YthodpjcdmdbnoaaGreatDoor

/- A region that draws its order and whose last operation waits for all others: loads are taken ahead of quiet calls under a condition on the world that the last operation need not keep. -/
namespace Go.Proofs.YthodpjcdmdbnoaaGreatDoor
open Go Go.RowKit Pr

section
variable {P : Program} {ops : Array Oper} {Q : Exit → Act → World → Prop} {S : World → Prop} {L : Nat}

/-- in whatever order; behind each operation but number L the condition holds -/
def wpN (P : Program) (ops : Array Oper) (Q : Exit → Act → World → Prop) (S : World → Prop) (L : Nat) : Nat → Array Bool → Act → World → Prop
 | 0, listed, a, w => Region.ready .any ops listed = [] ∧ Q .normal a w
 | m + 1, listed, a, w => (Region.ready .any ops listed = [] → Q .normal a w) ∧
  ∀ i ∈ Region.ready .any ops listed, wpOp P ops Q i (fun a' w' => (i ≠ L → S w') ∧ wpN P ops Q S L m (listed.setIfInBounds i true) a' w') a w

theorem wpN_any : ∀ (m : Nat) (listed : Array Bool) (a : Act) (w : World), wpN P ops Q S L m listed a w → wpAny P .any ops Q m listed a w
 | 0, _, _, _, h => h
 | m + 1, _, _, _, h => ⟨h.1, fun i hi => wpOp_mono (fun a' w' h' => wpN_any m _ a' w' h'.2) (h.2 i hi)⟩

/-- number L waits for number i -/
def waitsB (ops : Array Oper) (L i : Nat) : Bool := match ops[L]? with | some o => o.after.any fun e => Region.binds .any e && e.on == i | none => false
theorem waitsB_not {i : Nat} {listed : Array Bool} (h : waitsB ops L i = true) (hi : i ∈ Region.ready .any ops listed) : L ∉ Region.ready .any ops listed := fun hL => by
 unfold waitsB at h
 obtain ⟨_, oL, hoL, hall⟩ := mem_ready.1 hL
 rw [hoL] at h
 obtain ⟨e, he, hb⟩ := Array.any_eq_true'.1 h
 simp only [Bool.and_eq_true, beq_iff_eq] at hb
 have h1 := hall e he hb.1
 rw [hb.2] at h1
 have h0 := (mem_ready.1 hi).1
 rcases Nat.lt_or_ge i listed.size with h' | h'
 ·
  simp [h'] at h0 h1; rw [h0] at h1; cases h1
 ·
  simp [Array.getElem?_eq_none h'] at h1

theorem wpN_take {i : Nat} {oi : Oper} {v : Value} (hi : ops[i]? = some oi) (hsel : ∀ (j : Nat) (o : Oper) cs b, ops[j]? = some o → o.op ≠ .select cs b) (hQ : ∀ c a w, Q (.panic c) (a.put oi.dst v) w → Q (.panic c) a w) (hL : waitsB ops L i = true) :
    ∀ (m : Nat) (listed : Array Bool) (a : Act) (w : World),
     (∀ j oj, ops[j]? = some oj → j ≠ i → listed.getD j true = false → (∀ e ∈ oj.after, Region.binds .any e = true → e.on ≠ i) → oi.apart ops oj = true) →
     i ∈ Region.ready .any ops listed → YieldsIf P ops S oi v a → S w →
     wpN P ops Q S L m (listed.setIfInBounds i true) (a.put oi.dst v) w → wpN P ops Q S L (m + 1) listed a w
 | m, listed, a, w, hfree, hr, hy, hS, H => by
  refine ⟨fun h => (by rw [h] at hr; cases hr), fun j hj => ?_⟩
  by_cases hji : j = i
  ·
   subst hji
   exact hy.wpOp hi hS ⟨fun _ => hS, H⟩
  have hj2 := ready_mono hj hji
  cases m with
  | zero => rw [H.1] at hj2; cases hj2
  | succ m =>
   have hjL : j ≠ L := fun h => waitsB_not hL hr (h ▸ hj)
   obtain ⟨hjun, oj, hoj, hall⟩ := mem_ready.1 hj
   have hnot : ∀ e ∈ oj.after, Region.binds .any e = true → e.on ≠ i := fun e he hb heq => by
    have h1 := hall e he hb
    have h0 := (mem_ready.1 hr).1
    rw [heq] at h1
    rcases Nat.lt_or_ge i listed.size with h' | h'
    ·
     simp [h'] at h0 h1; rw [h0] at h1; cases h1
    ·
     simp [Array.getElem?_eq_none h'] at h1
   have h2 := wpOp_putIf hoj (hfree j oj hoj hji hjun hnot) (fun cs b => hsel i oi cs b hi) (fun cs b => hsel j oj cs b hoj) hQ hy (H.2 j hj2)
   refine wpOp_mono (fun a' w' h3 => ⟨h3.2.1, wpN_take hi hsel hQ hL m (listed.setIfInBounds j true) a' w' (fun k ok hk hki hun hno => ?_) (ready_mono hr (Ne.symm hji)) h3.1 (h3.2.1 hjL) ?_⟩) h2
   ·
    refine hfree k ok hk hki ?_ hno
    by_cases hjk : j = k
    ·
     subst hjk; exact hjun
    ·
     rw [getD_set_ne true hjk] at hun; exact hun
   ·
    rw [Array.setIfInBounds_comm _ _ hji]
    exact h3.2.2

def Sch.okN (ops : Array Oper) (L : Nat) : Sch → Array Bool → Bool
 | .done, listed => (Region.ready .any ops listed).isEmpty
 | .q i n, listed => (Region.ready .any ops listed).contains i && Region.free .any ops listed i && waitsB ops L i && n.okN ops L (listed.setIfInBounds i true)
 | .e l n, listed => (Region.ready .any ops listed == l) && !l.isEmpty && l.all fun i => (n i).okN ops L (listed.setIfInBounds i true)
def Sch.okL (ops : Array Oper) (L : Nat) (σ : Sch) : Bool := Region.noSelect ops && σ.len ops.size && σ.okN ops L (Array.replicate ops.size false)

def wpS (P : Program) (ops : Array Oper) (Q : Exit → Act → World → Prop) (S : World → Prop) (L : Nat) : Sch → Act → World → Prop
 | .done, a, w => Q .normal a w
 | .q i n, a, w => ∃ o v, ops[i]? = some o ∧ YieldsIf P ops S o v a ∧ S w ∧ wpS P ops Q S L n (a.put o.dst v) w
 | .e l n, a, w => ∀ i ∈ l, wpOp P ops Q i (fun a' w' => (i ≠ L → S w') ∧ wpS P ops Q S L (n i) a' w') a w

theorem wpN_of_tree (hs : Region.noSelect ops = true) (hQ : ∀ c a d v w, Q (.panic c) (Act.put a d v) w → Q (.panic c) a w) :
    ∀ (σ : Sch) (m : Nat) (listed : Array Bool) (a : Act) (w : World), σ.okN ops L listed = true → σ.len m = true → wpS P ops Q S L σ a w → wpN P ops Q S L m listed a w
 | .done, m, listed, a, w, hm, _, h => by
  have hr : Region.ready .any ops listed = [] := by simpa [Sch.okN] using hm
  cases m with
  | zero => exact ⟨hr, h⟩
  | succ m => exact ⟨fun _ => h, by rw [hr]; simp⟩
 | .q i n, m, listed, a, w, hm, hl, h => by
  simp only [Sch.okN, Bool.and_eq_true] at hm
  simp only [Sch.len, Bool.and_eq_true, bne_iff_ne] at hl
  obtain ⟨m, rfl⟩ := Nat.exists_eq_succ_of_ne_zero hl.1
  obtain ⟨o, v, ho, hy, hS, hr⟩ := h
  exact wpN_take ho (Region.noSelect_spec hs) (fun c a w => hQ c a _ _ w) hm.1.2 m listed a w (Region.free_spec ho hm.1.1.2) (by simpa using hm.1.1.1) hy hS (wpN_of_tree hs hQ n _ _ _ _ hm.2 (by simpa using hl.2) hr)
 | .e l n, m, listed, a, w, hm, hl, h => by
  simp only [Sch.okN, Bool.and_eq_true, beq_iff_eq, List.all_eq_true, Bool.not_eq_true', List.isEmpty_eq_false_iff] at hm
  simp only [Sch.len, Bool.and_eq_true, bne_iff_ne, List.all_eq_true] at hl
  obtain ⟨m, rfl⟩ := Nat.exists_eq_succ_of_ne_zero hl.1
  refine ⟨fun h0 => absurd (hm.1.1 ▸ h0) hm.1.2, fun j hj => ?_⟩
  rw [hm.1.1] at hj
  exact wpOp_mono (fun a' w' h' => ⟨h'.1, wpN_of_tree hs hQ (n j) _ _ _ _ (hm.2 j hj) (by simpa using hl.2 j hj) h'.2⟩) (h j hj)

theorem wp_region_last {id : Nat} {a : Act} {w : World} (σ : Sch) (S : World → Prop) (L : Nat) (hm : P.follows .mixedOrders = true) (hB : σ.okL ops L = true)
    (hQ : ∀ c a d v w, Q (.panic c) (Act.put a d v) w → Q (.panic c) a w) (h : wpS P ops Q S L σ a w.drew) : (Code.region id ops true).wp P Q a w := by
 simp only [Sch.okL, Bool.and_eq_true] at hB
 exact wp_region_any hm (wpN_any _ _ _ _ (wpN_of_tree (P := P) (S := S) hB.1.1 hQ σ _ _ a w.drew hB.2 hB.1.2 h))

variable {i : Nat} {o : Oper} {n : Sch} {a : Act} {w : World}
theorem s_q (ho : ops[i]? = some o) (hw : Region.wanted o (yielded ops a.tmps) = true) (hS : S w) (v : Value) (hrun : ∀ W, S W → (execOp a.eval o).run P W = .ok (.value v) W)
    (h : wpS P ops Q S L n (a.put o.dst v) w) : wpS P ops Q S L (.q i n) a w := ⟨o, v, ho, .inl ⟨hw, hrun⟩, hS, h⟩
theorem s_e {f : Nat → Sch} (ho : ops[i]? = some o) (hw : Region.wanted o (yielded ops a.tmps) = true) (h : ∀ K : Act → World → Prop, (∀ a' w', (i ≠ L → S w') → wpS P ops Q S L (f i) a' w' → K a' w') → o.wp P a w K Q) : wpS P ops Q S L (.e [i] f) a w := by
 intro j hj
 obtain rfl : j = i := by simpa using hj
 unfold wpOp
 simp only [ho, hw, if_true]
 exact .inl (h _ fun a' w' h1 h2 => ⟨h1, h2⟩)
theorem s_done (h : Q .normal a w) : wpS P ops Q S L .done a w := h
end
end Go.Proofs.YthodpjcdmdbnoaaGreatDoor
