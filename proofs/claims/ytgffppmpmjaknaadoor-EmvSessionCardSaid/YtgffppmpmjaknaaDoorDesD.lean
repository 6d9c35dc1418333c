/- The contracts of des.number, des.bytes. -/
import Derived.Test.YtgffppmpmjaknaaDoorDesB
import Derived.Laws.CopyOwn
namespace Go.Proofs.YtgffppmpmjaknaaDoor
open Go Go.RowKit Pr

theorem or_256 (n c : Nat) (hn : n < 72057594037927936) (hc : c < 256) : bits .or .u64 ((n : Int) * 256) (c : Int) = ((n * 256 + c : Nat) : Int) := by
  rw [show ((n : Int) * 256) = ((n * 256 : Nat) : Int) by simp, u64_or_nat _ _ (by omega) (by omega), show n * 256 ||| c = n * 256 + c by
    rw [show n * 256 = 2 ^ 8 * n by omega, ← Nat.two_pow_add_eq_or_of_lt (by omega)]]

set_option maxHeartbeats 400000 in
theorem number_any (l : List Nat) (hl : l.length = 8) (hb : ∀ c ∈ l, c < 256) (w : World) :
    Calls Tryd.prog 70 #[.agg (byteCells l)] w fun e w' => e = .returned (.int .u64 (be8 l : Nat)) ∧ w.alloc (.cells (byteCells l) 57) = w' := by
  have hsz := Lib.hid (size_byteCells l)
  have hget := Lib.hid (get_byteCells l)
  generalize byteCells l = cs at *
  have HL := Lib.hid hl; clear hl
  have HB := Lib.hid hb; clear hb
  go_enter Tryd.func70, Tryd.ntmps70
  go_wp2_with (refine wpList_load_row rfl 57 (.tmp 1) rfl w.heap.size rfl 57 cs (0,0) _ (heap_alloc_new _ _) Tryd.underlying57 rfl (by rw [info_8u8, hsz.out, HL.out]) ?_)
  go_loop [3, 7] (fun x i => ∃ k : Nat, k ≤ 8 ∧ i = .int .i64 k ∧ x = .int .u64 (be8 (l.take k) : Nat)) (fun _ i => 8 - (intOf i).toNat)
  case atStart => exact ⟨0, by omega, rfl, rfl⟩
  case round =>
    obtain ⟨k, hk, rfl, rfl⟩ := hrel
    by_cases hlt : k < 8
    · have hkl : k < l.length := by rw [HL.out]; exact hlt
      have hc := HB.out l[k] (List.getElem_mem _)
      have hg := hget.out k hkl
      have hbe := be8_lt (l.take k) (fun c hc => HB.out c (List.mem_of_mem_take hc))
      have hbe2 : be8 (l.take k) < 72057594037927936 := Nat.lt_of_lt_of_le hbe (Nat.le_trans (Nat.pow_le_pow_right (by omega) (by rw [List.length_take]; omega : (l.take k).length ≤ 7)) (by decide))
      clear hbe
      have hsn : be8 (l.take (k + 1)) = be8 (l.take k) * 256 + l[k] := by rw [List.take_succ_eq_append_getElem hkl, be8_snoc]
      generalize l[k] = c at *
      have HS := Lib.hid hsn; clear hsn
      have hix := index_8u8 cs k hlt k rfl _ hg
      clear hg
      generalize hP : be8 (l.take k) = P at *
      have HP := Lib.hid hP; clear hP
      go_wp2
      go_round
      case rel => exact ⟨k + 1, by omega, by go_num, by rw [or_256 _ _ hbe2 hc, HS.out]⟩
      case measure => simp [intOf]; omega
    · have e8 : l.take k = l := List.take_of_length_le (by rw [HL.out]; omega)
      have E8 := Lib.hid e8; clear e8
      go_wp2
      go_ret
      exact ⟨by rw [E8.out]; rfl, rfl⟩

/-- the first k bytes, the rest still 0 -/
def fill8 (x k : Nat) : List Nat := (bytes8 x).take k ++ List.replicate (8 - k) 0
theorem fill8_len (x k : Nat) (h : k ≤ 8) : (fill8 x k).length = 8 := by simp [fill8, bytes8]; omega
theorem fill8_set (x k : Nat) (h : k < 8) : (fill8 x k).set k (x / 2 ^ (56 - 8 * k) % 256) = fill8 x (k + 1) := by
  apply List.ext_getElem?
  intro i
  unfold fill8
  have hl : ((bytes8 x).take k).length = k := by simp [bytes8]; omega
  have hb : ∀ i < 8, (bytes8 x)[i]? = some (x / 2 ^ (56 - 8 * i) % 256) := by intro i hi; simp [bytes8, hi]
  have h8 : (bytes8 x).length = 8 := by simp [bytes8]
  rw [List.getElem?_set]
  have hlen : (List.take k (bytes8 x) ++ List.replicate (8 - k) 0).length = 8 := by simp [h8]; omega
  have hl' : ((bytes8 x).take (k+1)).length = k+1 := by simp [bytes8]; omega
  by_cases hik : k = i
  · subst hik
    rw [if_pos rfl, if_pos (by omega), List.getElem?_append_left (by omega), List.getElem?_take_of_lt (by omega), hb _ h]
  · rw [if_neg hik]
    by_cases hlt : i < k
    · rw [List.getElem?_append_left (by omega), List.getElem?_append_left (by omega), List.getElem?_take_of_lt (by omega), List.getElem?_take_of_lt (by omega)]
    · rw [List.getElem?_append_right (by omega), List.getElem?_append_right (by omega), hl, hl', List.getElem?_replicate, List.getElem?_replicate]
      by_cases h3 : i < 8
      · rw [if_pos (by omega), if_pos (by omega)]
      · rw [if_neg (by omega), if_neg (by omega)]

theorem set_byteCells (l : List Nat) (k c : Nat) : (byteCells l).setIfInBounds k (.int .u8 (c : Int)) = byteCells (l.set k c) := by
  simp [byteCells, List.map_set]

theorem fill_step {cs : Array Value} {x k : Nat} (h : cs = byteCells (fill8 x k)) (hk : k < 8) : cs.setIfInBounds k (.int .u8 ((x : Int) / 2 ^ (56 - 8 * k) % 256)) = byteCells (fill8 x (k + 1)) := by
  rw [h, show ((x : Int) / 2 ^ (56 - 8 * k) % 256) = ((x / 2 ^ (56 - 8 * k) % 256 : Nat) : Int) by simp, set_byteCells, fill8_set x k hk]
theorem fill_end (x : Nat) : fill8 x 8 = bytes8 x := by
  unfold fill8
  rw [List.take_of_length_le (by simp [bytes8])]; simp
theorem bytes_one (l : List Nat) : (byteCells l).all (·.oneCell') = true := by simp [byteCells, Value.oneCell']

set_option maxHeartbeats 400000 in
theorem bytes_any (x : Nat) (hx : x < 18446744073709551616) (w : World) :
    Calls Tryd.prog 72 #[.int .u64 x] w fun e w' => e = .returned (.agg (byteCells (bytes8 x))) ∧ Below w.heap.size w w' := by
  have HX := Lib.hid hx; clear hx
  go_enter Tryd.func72, Tryd.ntmps72
  go_wp2
  obtain ⟨z, hz, hzs⟩ : ∃ z : Array Value, z = #[Value.int .u8 0, Value.int .u8 0, Value.int .u8 0, Value.int .u8 0, Value.int .u8 0, Value.int .u8 0, Value.int .u8 0, Value.int .u8 0] ∧ z.size = 8 := ⟨_, rfl, rfl⟩
  rw [← hz]
  obtain ⟨w1, hw1⟩ : ∃ w1, w1 = w.alloc (Obj.cells z 57) := ⟨_, rfl⟩
  rw [← hw1]
  go_loopw [5] (fun i wr => ∃ k : Nat, k ≤ 8 ∧ i = .int .i64 k ∧ ∃ cs, Hid (cs = byteCells (fill8 x k)) ∧ wr = w1.alloc (.cells cs 57)) (fun i _ => 8 - (intOf i).toNat)
  case atStart => exact ⟨0, by omega, rfl, z, hz, rfl⟩
  case round =>
    obtain ⟨k, hk, rfl, cs, hcs, rfl⟩ := hrel
    have hs : w1.heap.size = w.heap.size + 1 := by rw [hw1]; simp
    have hb1 : (w1.alloc (.cells cs 57)).heap[w.heap.size + 1]? = some (.cells cs 57) := by rw [← hs]; exact heap_alloc_new _ _
    have hb0 : (w1.alloc (.cells cs 57)).heap[w.heap.size]? = some (.cells z 57) := by rw [show (w1.alloc _).heap[w.heap.size]? = w1.heap[w.heap.size]? from heap_alloc_old _ _ (by omega), hw1]; exact heap_alloc_new _ _
    have hcz : cs.size = 8 := by rw [hcs.out, size_byteCells, fill8_len _ _ hk]
    have hc1 : cs.all (·.oneCell') = true := by rw [hcs.out]; exact bytes_one _
    have HB1 := Lib.hid hb1
    have HB0 := Lib.hid hb0
    have HCZ := Lib.hid hcz
    have HC1 := Lib.hid hc1
    have HW1 := Lib.hid hw1
    have HZS := Lib.hid hzs
    clear hw1 hb1 hb0 hcz hc1 hz hzs
    by_cases hlt : k < 8
    · have hg : cs[k]? = some (.int .u8 ((fill8 x k)[k]'(by rw [fill8_len _ _ hk]; exact hlt) : Nat)) := by rw [hcs.out]; exact get_byteCells _ _ _
      generalize (fill8 x k)[k]'(by rw [fill8_len _ _ hk]; exact hlt) = c at *
      go_wp2
      go_roundw
      case rel => exact ⟨k + 1, by omega, by go_num, _, fill_step hcs.out hlt, rfl⟩
      case measure => simp [intOf]; omega
    · have e8 : k = 8 := by omega
      subst e8
      go_wp2_with (first
        | (refine wpList_load_row rfl 57 (.tmp 3) rfl (w.heap.size + 1) rfl 57 cs (0,0) _ HB1.out Tryd.underlying57 rfl (by rw [info_8u8, HCZ.out]) ?_)
        | (refine wpList_store_row rfl 57 (.tmp 2) (.tmp 17) rfl w.heap.size cs rfl rfl 57 z HB0.out (by rw [info_8u8, HCZ.out]) (by rw [HCZ.out, HZS.out]) HC1.out ?_))
      refine bodyPost_ret (v := .agg cs) (results_cell_row rfl _ _ w.heap.size 57 cs (0,0) _ rfl (setRow_heap _ _ _ _ _ _ HB0.out) Tryd.underlying57 rfl (by rw [info_8u8, HCZ.out])) rfl ⟨by rw [hcs.out, fill_end], ?_⟩
      refine below_setRow ?_ (Nat.le_refl _) _
      rw [HW1.out]
      exact ((Below.refl _ _).alloc (Nat.le_refl _) _).alloc (by simp) _
end Go.Proofs.YtgffppmpmjaknaaDoor
