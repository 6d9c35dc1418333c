/- The contract of des.Block. -/
import Derived.Test.YtgffppmpmjaknaaDoorDesE
namespace Go.Proofs.YtgffppmpmjaknaaDoor
open Go Go.RowKit Pr

theorem or_32 (c d : Nat) (hc : c < 4294967296) (hd : d < 4294967296) : bits .or .u64 ((c : Int) * 4294967296) (d : Int) = ((c * 4294967296 + d : Nat) : Int) := by
  rw [show ((c : Int) * 4294967296) = ((c * 4294967296 : Nat) : Int) by simp, u64_or_nat _ _ (by omega) (by omega), show c * 4294967296 ||| d = c * 4294967296 + d by
    rw [show c * 4294967296 = 2 ^ 32 * c by omega, ← Nat.two_pow_add_eq_or_of_lt (by omega)]]

theorem unpermute_at (x : Int) (X : Nat) (hX : x = X) (tab : ByteArray) (ps : List Nat) (w : World) (hx : X < 18446744073709551616) (ht : Tab tab 64 ps) :
    Calls Tryd.prog 73 #[.int .u64 x, .string tab] w fun e w' => e = .returned (.int .u64 (unpN X ps ps.length : Nat)) ∧ ∃ n, w' = w.drewN n := by
  subst hX
  exact unpermute_any X tab ps w hx ht

section
variable {ks : List Nat} {back : Bool} {x k L R K M i : Nat}
theorem lad1 (_h1 : (ladderN ks back x k).1 = L) (h2 : (ladderN ks back x k).2 = R) (_hk : ks.getD (if back then 15 - k else k) 0 = K) (_hM : mixN R K = M) : (ladderN ks back x (k + 1)).1 = R := by
  rw [ladderN]; exact h2
theorem lad2 (h1 : (ladderN ks back x k).1 = L) (h2 : (ladderN ks back x k).2 = R) (hk : ks.getD (if back then 15 - k else k) 0 = K) (hM : mixN R K = M) : (ladderN ks back x (k + 1)).2 = L ^^^ M := by
  rw [ladderN]; simp only [h1, h2, hk, hM]
end

set_option maxHeartbeats 2000000 in
set_option maxRecDepth 100000 in
theorem block_any (key b : List Nat) (back : Bool) (hkl : key.length = 8) (hkb : ∀ c ∈ key, c < 256) (hbl : b.length = 8) (hbb : ∀ c ∈ b, c < 256) (w : World) :
    Calls Tryd.prog 42 #[.agg (byteCells key), .agg (byteCells b), .bool back] w fun e w' => e = .returned (.agg (byteCells (blockN key b back))) ∧ Below w.heap.size w w' := by
  have hszk := Lib.hid (size_byteCells key)
  have hszb := Lib.hid (size_byteCells b)
  have hrounds := Lib.hid (fun W => rounds_any key hkl hkb W)
  have hnum := Lib.hid (fun W => number_any b hbl hbb W)
  have hx64 := be8_lt8 hbl hbb
  have HKL := Lib.hid hkl; clear hkl
  have HBL := Lib.hid hbl; clear hbl
  clear hkb hbb
  obtain ⟨ck, hck⟩ : ∃ c, byteCells key = c := ⟨_, rfl⟩
  obtain ⟨cb, hcb⟩ : ∃ c, byteCells b = c := ⟨_, rfl⟩
  rw [hck] at hszk hrounds ⊢
  rw [hcb] at hszb hnum ⊢
  clear hck hcb
  go_enter Tryd.func42, Tryd.ntmps42
  go_wp2_with (refine wpList_load_row rfl 57 (.tmp 3) rfl w.heap.size rfl 57 ck (0,0) _ (((Blk.new w 57 ck).alloc _).alloc _) Tryd.underlying57 rfl (by rw [info_8u8, hszk.out, HKL.out]) ?_)
  refine (hrounds.out _).mono ?_
  rintro e w1 ⟨rfl, hb1⟩
  have hBb : Blk w1 (w.heap.size + 1) 57 cb := Blk.below (by simpa using ((Blk.new (w.alloc _) 57 cb).alloc _)) hb1 (by simp)
  obtain ⟨z, hz, hBz⟩ : ∃ z : Array Value, Hid (z.size = 8) ∧ Blk w1 (w.heap.size + 1 + 1) 57 z := ⟨#[Value.int .u8 0, Value.int .u8 0, Value.int .u8 0, Value.int .u8 0, Value.int .u8 0, Value.int .u8 0, Value.int .u8 0, Value.int .u8 0], rfl, Blk.below (by simpa using (Blk.new ((w.alloc _).alloc _) 57 _)) hb1 (by simp)⟩
  have hbel : Below w.heap.size w w1 := ((((Below.refl _ _).alloc (Nat.le_refl _) _).alloc (by simp) _).alloc (by simp; omega) _).trans (hb1.mono (by simp; omega))
  have hBb := Lib.hid hBb
  have hBz := Lib.hid hBz
  have hbel := Lib.hid hbel
  clear hb1
  obtain ⟨g, hg⟩ : ∃ g, w1.heap.size = g := ⟨_, rfl⟩
  have hgl : w.heap.size + 1 + 1 < g := by rw [← hg]; exact hBz.out.lt
  obtain ⟨w2, hw2⟩ : ∃ w2, (w1.alloc (Obj.cells #[Value.int .u64 0, Value.int .u64 0, Value.int .u64 0, Value.int .u64 0, Value.int .u64 0, Value.int .u64 0, Value.int .u64 0, Value.int .u64 0, Value.int .u64 0, Value.int .u64 0, Value.int .u64 0, Value.int .u64 0, Value.int .u64 0, Value.int .u64 0, Value.int .u64 0, Value.int .u64 0] 115)).setRow g (numCells .u64 (roundsN key)) = w2 := ⟨_, rfl⟩
  have hBk : Blk w2 g 115 (numCells .u64 (roundsN key)) := by rw [← hw2, ← hg]; exact (Blk.new w1 115 _).row _
  have hBb2 : Blk w2 (w.heap.size + 1) 57 cb := by rw [← hw2]; exact (hBb.out.alloc _).rowFar (by omega) _
  have hBz2 : Blk w2 (w.heap.size + 1 + 1) 57 z := by rw [← hw2]; exact (hBz.out.alloc _).rowFar (by omega) _
  have hbel2 : Below w.heap.size w w2 := by rw [← hw2]; exact below_setRow (hbel.out.alloc (by omega) _) (by omega) _
  have hs2 : g < w2.heap.size := hBk.lt
  clear hBb hBz hbel
  have hw2 := Lib.hid hw2
  have hBk := Lib.hid hBk
  have hBb := Lib.hid hBb2; clear hBb2
  have hBz := Lib.hid hBz2; clear hBz2
  have hbel := Lib.hid hbel2; clear hbel2
  have hN : Hid ((w1.alloc (Obj.cells #[Value.int .u64 0, Value.int .u64 0, Value.int .u64 0, Value.int .u64 0, Value.int .u64 0, Value.int .u64 0, Value.int .u64 0, Value.int .u64 0, Value.int .u64 0, Value.int .u64 0, Value.int .u64 0, Value.int .u64 0, Value.int .u64 0, Value.int .u64 0, Value.int .u64 0, Value.int .u64 0] 115)).heap[g]? = some (.cells #[Value.int .u64 0, Value.int .u64 0, Value.int .u64 0, Value.int .u64 0, Value.int .u64 0, Value.int .u64 0, Value.int .u64 0, Value.int .u64 0, Value.int .u64 0, Value.int .u64 0, Value.int .u64 0, Value.int .u64 0, Value.int .u64 0, Value.int .u64 0, Value.int .u64 0, Value.int .u64 0] 115)) := by rw [← hg]; exact heap_alloc_new _ _
  go_wp2_with (first
    | (refine wpList_store_row rfl 115 (.tmp 7) (.tmp 13) rfl g (numCells .u64 (roundsN key)) rfl rfl 115 #[Value.int .u64 0, Value.int .u64 0, Value.int .u64 0, Value.int .u64 0, Value.int .u64 0, Value.int .u64 0, Value.int .u64 0, Value.int .u64 0, Value.int .u64 0, Value.int .u64 0, Value.int .u64 0, Value.int .u64 0, Value.int .u64 0, Value.int .u64 0, Value.int .u64 0, Value.int .u64 0] hN.out (by rw [info_16u64, size_numCells, roundsN_len]) (by rw [size_numCells, roundsN_len]; rfl) (numCells_one _ _) ?_; rw [hw2.out])
    | (refine wpList_load_row rfl 57 (.tmp 4) rfl (w.heap.size + 1) rfl 57 cb (0,0) _ hBb.out Tryd.underlying57 rfl (by rw [info_8u8, hszb.out, HBL.out]) ?_))
  clear hg
  refine (hnum.out _).mono ?_
  rintro e w' ⟨rfl, rfl⟩
  go_wp2_with fail
  refine (permute_at (be8 b) (be8 b) rfl 64 64 rfl _ psIP _ hx64 (by omega) (tab_of (by kernel_rfl))).mono ?_
  rintro e w' ⟨rfl, n0, rfl⟩
  obtain ⟨x, hx⟩ : ∃ x, permN (be8 b) 64 psIP = x := ⟨_, rfl⟩
  have hx64' : x < 18446744073709551616 := by rw [← hx]; exact permN_lt _ _ psIP
  rw [hx]
  have HBN : Hid (blockN key b back = bytes8 (unpN ((ladderN (roundsN key) back x 16).2 * 4294967296 + (ladderN (roundsN key) back x 16).1) psIP 64)) := by rw [← hx]; rfl
  clear hx hx64
  have e2 : bits .and .u64 (x : Int) 4294967295 = (x % 4294967296 : Nat) := by
    rw [show (4294967295 : Int) = ((4294967295 : Nat) : Int) from rfl, u64_and_nat _ _ (by omega) (by omega), show (4294967295 : Nat) = 2 ^ 32 - 1 from rfl, Nat.and_two_pow_sub_one_eq_mod]
  have e1 : (x : Int) / 4294967296 = (x / 4294967296 : Nat) := by omega
  have hl0 := ladderN_lt (roundsN key) back x hx64'
  obtain ⟨l0, hl0'⟩ : ∃ l0, x / 4294967296 = l0 := ⟨_, rfl⟩
  obtain ⟨r0, hr0'⟩ : ∃ r0, x % 4294967296 = r0 := ⟨_, rfl⟩
  rw [hl0'] at e1
  rw [hr0'] at e2
  have HL0 : Hid ((ladderN (roundsN key) back x 0).1 = l0) := hl0'
  have HR0 : Hid ((ladderN (roundsN key) back x 0).2 = r0) := hr0'
  clear hl0' hr0'
  have HLT := Lib.hid hl0; clear hl0
  go_wp2
  clear e1 e2
  go_loopw [9, 10, 21] (fun l r i wr => ∃ k : Nat, k ≤ 16 ∧ i = .int .i64 k ∧ l = .int .u64 ((ladderN (roundsN key) back x k).1 : Nat) ∧ r = .int .u64 ((ladderN (roundsN key) back x k).2 : Nat) ∧ Blk wr g 115 (numCells .u64 (roundsN key)) ∧ ∃ z, Hid (z.size = 8) ∧ Blk wr (w.heap.size + 1 + 1) 57 z ∧ Below w.heap.size w wr) (fun _ _ i _ => 16 - (intOf i).toNat)
  case atStart => exact ⟨0, by omega, rfl, by rw [HL0.out], by rw [HR0.out], (hBk.out.alloc _).drewN _, z, hz, (hBz.out.alloc _).drewN _, below_drewN (hbel.out.alloc (by omega) _) _⟩
  case round =>
    obtain ⟨k, hk, rfl, rfl, rfl, hBk, z, hz, hBz, hbel⟩ := hrel
    have hl := HLT.out k
    have hBk := Lib.hid hBk
    have hBz := Lib.hid hBz
    have hbel := Lib.hid hbel
    by_cases hlt : k < 16
    · obtain ⟨L, hL⟩ : ∃ L, (ladderN (roundsN key) back x k).1 = L := ⟨_, rfl⟩
      obtain ⟨R, hR⟩ : ∃ R, (ladderN (roundsN key) back x k).2 = R := ⟨_, rfl⟩
      rw [hL, hR] at hl
      rw [hL, hR]
      have HP1 := Lib.hid hL; clear hL
      have HP2 := Lib.hid hR; clear hR
      cases back with
      | false =>
        have hix : (k) < 16 := by omega
        have hkl : (k) < (roundsN key).length := by rw [roundsN_len]; exact hix
        have hcell : wr.cell? ⟨g, k, none⟩ = some (.int .u64 (((roundsN key)[k] : Nat) : Int)) := by rw [hBk.out.cell]; exact get_numCells _ _ _ hkl
        have hKl := roundsN_lt key _ (List.getElem_mem hkl)
        have hKd : (roundsN key).getD (k) 0 = (roundsN key)[k] := getD_of _ _ hkl
        generalize (roundsN key)[k] = K at *
        have HKD := Lib.hid hKd; clear hKd
        go_wp2_with fail
        refine (mix_any R K _ hl.2 hKl).mono ?_
        rintro e w' ⟨rfl, n1, rfl⟩
        have hm := mixN_lt R K
        have hx := u64_xor_nat L (mixN R K) (by omega) (by omega)
        generalize hM : mixN R K = M at *
        have HM := Lib.hid hM; clear hM
        have HX := Lib.hid hx; clear hx
        go_wp2
        go_roundw
        case rel => exact ⟨k + 1, by omega, by go_num, by rw [lad1 HP1.out HP2.out HKD.out HM.out], by rw [HX.out, lad2 HP1.out HP2.out HKD.out HM.out], hBk.out.drewN _, z, hz, hBz.out.drewN _, below_drewN hbel.out _⟩
        case measure => simp [intOf]; omega
      | true =>
        have hix : (15 - k) < 16 := by omega
        have hkl : (15 - k) < (roundsN key).length := by rw [roundsN_len]; exact hix
        have hcell : wr.cell? ⟨g, 15 - k, none⟩ = some (.int .u64 (((roundsN key)[15 - k] : Nat) : Int)) := by rw [hBk.out.cell]; exact get_numCells _ _ _ hkl
        have hKl := roundsN_lt key _ (List.getElem_mem hkl)
        have hKd : (roundsN key).getD (15 - k) 0 = (roundsN key)[15 - k] := getD_of _ _ hkl
        generalize (roundsN key)[15 - k] = K at *
        have HKD := Lib.hid hKd; clear hKd
        have e15 : (15 - (k : Int)).toNat = 15 - k := by omega
        go_wp2_with fail
        refine (mix_any R K _ hl.2 hKl).mono ?_
        rintro e w' ⟨rfl, n1, rfl⟩
        have hm := mixN_lt R K
        have hx := u64_xor_nat L (mixN R K) (by omega) (by omega)
        generalize hM : mixN R K = M at *
        have HM := Lib.hid hM; clear hM
        have HX := Lib.hid hx; clear hx
        go_wp2
        go_roundw
        case rel => exact ⟨k + 1, by omega, by go_num, by rw [lad1 HP1.out HP2.out HKD.out HM.out], by rw [HX.out, lad2 HP1.out HP2.out HKD.out HM.out], hBk.out.drewN _, z, hz, hBz.out.drewN _, below_drewN hbel.out _⟩
        case measure => simp [intOf]; omega
    · have e16 : k = 16 := by omega
      subst e16
      obtain ⟨L, hL⟩ : ∃ L, (ladderN (roundsN key) back x 16).1 = L := ⟨_, rfl⟩
      obtain ⟨R, hR⟩ : ∃ R, (ladderN (roundsN key) back x 16).2 = R := ⟨_, rfl⟩
      rw [hL, hR] at hl
      have hbn := HBN.out
      rw [hL, hR] at hbn
      rw [hL, hR]
      clear hL hR
      have hbn := Lib.hid hbn
      go_wp2_with fail
      refine (unpermute_at _ (R * 4294967296 + L) (or_32 R L hl.2 hl.1) _ psIP _ (by omega) (tab_of (by kernel_rfl))).mono ?_
      rintro e w' ⟨rfl, n1, rfl⟩
      go_wp2_with fail
      refine (bytes_any _ (unpN_lt _ _ (tab_ip) _ (Nat.le_refl _)) _).mono ?_
      rintro e w3 ⟨rfl, hb3⟩
      have hBz3 : Blk w3 (w.heap.size + 1 + 1) 57 z := (hBz.out.drewN n1).below hb3 hBz.out.lt
      have hbel3 : Below w.heap.size w w3 := (below_drewN hbel.out n1).trans (hb3.mono (by have := hBz.out.lt; simp; omega))
      go_wp2_with (refine wpList_store_row rfl 57 (.tmp 6) (.tmp 41) rfl (w.heap.size + 1 + 1) (byteCells (bytes8 (unpN (R * 4294967296 + L) psIP psIP.length))) rfl rfl 57 z hBz3 (by rw [info_8u8, size_byteCells, bytes8_len]) (by rw [size_byteCells, bytes8_len]; exact hz.out) (bytes_one _) ?_)
      refine bodyPost_ret (v := .agg (byteCells (bytes8 (unpN (R * 4294967296 + L) psIP psIP.length)))) (results_cell_row rfl _ _ (w.heap.size + 1 + 1) 57 _ (0,0) _ rfl (setRow_heap _ _ _ _ _ _ hBz3) Tryd.underlying57 rfl (by rw [info_8u8, size_byteCells, bytes8_len])) rfl ⟨by rw [hbn.out]; rfl, ?_⟩
      exact below_setRow hbel3 (by omega) _
end Go.Proofs.YtgffppmpmjaknaaDoor
