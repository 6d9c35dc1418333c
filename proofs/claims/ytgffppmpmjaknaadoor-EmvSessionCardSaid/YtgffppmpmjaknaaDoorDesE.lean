/- The contract of des.Rounds. -/
import Derived.Test.YtgffppmpmjaknaaDoorDesC
import Derived.Test.YtgffppmpmjaknaaDoorDesD
namespace Go.Proofs.YtgffppmpmjaknaaDoor
open Go Go.RowKit Pr

theorem info_16u64 : (Tryd.prog.info? 115).map (·.size) = some 16 := by kernel_rfl

theorem or_28 (c d : Nat) (hc : c < 268435456) (hd : d < 268435456) : bits .or .u64 ((c : Int) * 268435456) (d : Int) = ((c * 268435456 + d : Nat) : Int) := by
  rw [show ((c : Int) * 268435456) = ((c * 268435456 : Nat) : Int) by simp, u64_or_nat _ _ (by omega) (by omega), show c * 268435456 ||| d = c * 268435456 + d by
    rw [show c * 268435456 = 2 ^ 28 * c by omega, ← Nat.two_pow_add_eq_or_of_lt (by omega)]]

theorem key_step {cs : Array Value} {l : List Nat} {k : Nat} (h : cs = numCells .u64 (fillN (roundsN l) 16 k)) (hk : k < 16) : cs.setIfInBounds k (.int .u64 (keyN l k : Nat)) = numCells .u64 (fillN (roundsN l) 16 (k + 1)) := by
  rw [h, set_numCells, ← fillN_set _ 16 k hk (by simp [roundsN])]
  simp [roundsN]

theorem key_of {l : List Nat} {c0 d0 k C1 D1 : Nat} (h : ∀ r, keyN l r = permN (spun c0 (r + 1) * 268435456 + spun d0 (r + 1)) 56 psPC2) (hc : spun c0 (k + 1) = C1) (hd : spun d0 (k + 1) = D1) : permN (C1 * 268435456 + D1) 56 psPC2 = keyN l k := by
  rw [h k, hc, hd]

theorem spun_step {c0 k C n C1 : Nat} (h : spun c0 k = C) (hr : rotN k = n) (h1 : turnN C n = C1) : spun c0 (k + 1) = C1 := by
  rw [← h1, ← h, ← hr]; rfl

theorem key_step' {cs : Array Value} {l : List Nat} {k K : Nat} (h : cs = numCells .u64 (fillN (roundsN l) 16 k)) (hk : k < 16) (hK : K = keyN l k) : cs.setIfInBounds k (.int .u64 (K : Int)) = numCells .u64 (fillN (roundsN l) 16 (k + 1)) := by
  rw [hK]; exact key_step h hk

set_option maxHeartbeats 2000000 in
set_option maxRecDepth 100000 in
theorem rounds_any (l : List Nat) (hl : l.length = 8) (hb : ∀ c ∈ l, c < 256) (w : World) :
    Calls Tryd.prog 68 #[.agg (byteCells l)] w fun e w' => e = .returned (.agg (numCells .u64 (roundsN l))) ∧ Below w.heap.size w w' := by
  have hsz := Lib.hid (size_byteCells l)
  have HL := Lib.hid hl; clear hl
  have HB := Lib.hid hb; clear hb
  obtain ⟨cl, hcl⟩ : ∃ cl, byteCells l = cl := ⟨_, rfl⟩
  have hnum := fun W => number_any l HL.out HB.out W
  rw [hcl]; rw [hcl] at hsz; simp only [hcl] at hnum
  have HNUM := Lib.hid hnum; clear hnum
  clear hcl
  go_enter Tryd.func68, Tryd.ntmps68
  go_wp2_with (first
    | (refine wpList_load_row rfl 57 (.tmp 1) rfl w.heap.size rfl 57 cl (0,0) _ (((Blk.new w 57 cl).alloc _).alloc _) Tryd.underlying57 rfl (by rw [info_8u8, hsz.out, HL.out]) ?_)
    | (go_at_call 70; refine (HNUM.out _).mono ?_; rintro e w' ⟨rfl, rfl⟩)
    )
  refine (permute_at (be8 l) (be8 l) rfl 64 64 rfl _ psPC1 _ (be8_lt8 HL.out HB.out) (by omega) (tab_of (by kernel_rfl))).mono ?_
  rintro e w' ⟨rfl, n0, rfl⟩
  obtain ⟨x, hx⟩ : ∃ x, permN (be8 l) 64 psPC1 = x := ⟨_, rfl⟩
  have hx56 : x < 2 ^ 56 := by rw [← hx]; exact pc1_lt l
  rw [hx]
  obtain ⟨c0, hc0⟩ : ∃ c0, x / 268435456 = c0 := ⟨_, rfl⟩
  obtain ⟨d0, hd0⟩ : ∃ d0, x % 268435456 = d0 := ⟨_, rfl⟩
  have hc0l : c0 < 268435456 := by omega
  have hd0l : d0 < 268435456 := by omega
  have e1 : (x : Int) / 268435456 = c0 := by omega
  have e2 : bits .and .u64 (x : Int) 268435455 = d0 := by
    rw [← hd0, show (268435455 : Int) = ((268435455 : Nat) : Int) from rfl, u64_and_nat _ _ (by omega) (by omega), show (268435455 : Nat) = 2 ^ 28 - 1 from rfl, Nat.and_two_pow_sub_one_eq_mod]
  have HK : Hid (∀ r, keyN l r = permN (spun c0 (r + 1) * 268435456 + spun d0 (r + 1)) 56 psPC2) := by intro r; rw [← hc0, ← hd0, ← hx]; rfl
  clear hx hc0 hd0
  go_wp2
  clear e1 e2
  go_loopw [5, 6, 16] (fun c d i wr => ∃ k : Nat, k ≤ 16 ∧ i = .int .i64 k ∧ c = .int .u64 (spun c0 k : Nat) ∧ d = .int .u64 (spun d0 k : Nat) ∧ ∃ cs, Hid (cs = numCells .u64 (fillN (roundsN l) 16 k)) ∧ Blk wr (w.heap.size + 1 + 1) 115 cs ∧ ∃ z, Hid (z.size = 16) ∧ Blk wr (w.heap.size + 1) 115 z ∧ Below w.heap.size w wr) (fun _ _ i _ => 16 - (intOf i).toNat)
  case atStart =>
    refine ⟨0, by omega, rfl, rfl, rfl, #[Value.int .u64 0, Value.int .u64 0, Value.int .u64 0, Value.int .u64 0, Value.int .u64 0, Value.int .u64 0, Value.int .u64 0, Value.int .u64 0, Value.int .u64 0, Value.int .u64 0, Value.int .u64 0, Value.int .u64 0, Value.int .u64 0, Value.int .u64 0, Value.int .u64 0, Value.int .u64 0], rfl, ?_, #[Value.int .u64 0, Value.int .u64 0, Value.int .u64 0, Value.int .u64 0, Value.int .u64 0, Value.int .u64 0, Value.int .u64 0, Value.int .u64 0, Value.int .u64 0, Value.int .u64 0, Value.int .u64 0, Value.int .u64 0, Value.int .u64 0, Value.int .u64 0, Value.int .u64 0, Value.int .u64 0], rfl, ?_, ?_⟩
    · exact (by simpa using (((Blk.new ((w.alloc _).alloc _) 115 #[Value.int .u64 0, Value.int .u64 0, Value.int .u64 0, Value.int .u64 0, Value.int .u64 0, Value.int .u64 0, Value.int .u64 0, Value.int .u64 0, Value.int .u64 0, Value.int .u64 0, Value.int .u64 0, Value.int .u64 0, Value.int .u64 0, Value.int .u64 0, Value.int .u64 0, Value.int .u64 0]).alloc _).drewN n0))
    · exact (by simpa using ((((Blk.new (w.alloc _) 115 #[Value.int .u64 0, Value.int .u64 0, Value.int .u64 0, Value.int .u64 0, Value.int .u64 0, Value.int .u64 0, Value.int .u64 0, Value.int .u64 0, Value.int .u64 0, Value.int .u64 0, Value.int .u64 0, Value.int .u64 0, Value.int .u64 0, Value.int .u64 0, Value.int .u64 0, Value.int .u64 0]).alloc _).alloc _).drewN n0))
    · exact below_drewN (((((Below.refl _ _).alloc (Nat.le_refl _) _).alloc (by simp) _).alloc (by simp; omega) _).alloc (by simp; omega) _) _
  case round =>
    obtain ⟨k, hk, rfl, rfl, rfl, cs, hcs, hB3, z, hz, hB2, hbel⟩ := hrel
    have hcl := spun_lt c0 hc0l k
    have hdl := spun_lt d0 hd0l k
    have HB3 := Lib.hid hB3
    have HB2 := Lib.hid hB2; clear hB2
    have HBel := Lib.hid hbel; clear hbel
    by_cases hlt : k < 16
    · have hcell : ∃ v, wr.cell? ⟨w.heap.size + 1 + 1, k, none⟩ = some v := by
        rw [hB3.cell, hcs.out, get_numCells _ _ k (by rw [fillN_len _ _ _ hk (by simp [roundsN])]; exact hlt)]; exact ⟨_, rfl⟩
      obtain ⟨v0, hcell⟩ := hcell
      have hfr := hB3.frozen k
      have hsz3 := hB3.lt
      clear hB3
      obtain ⟨C, hC⟩ : ∃ C, spun c0 k = C := ⟨_, rfl⟩
      obtain ⟨D, hD⟩ : ∃ D, spun d0 k = D := ⟨_, rfl⟩
      rw [hC] at hcl ⊢
      rw [hD] at hdl ⊢
      have HC := Lib.hid hC; clear hC
      have HD := Lib.hid hD; clear hD
      rcases (by omega : k = 0 ∨ k = 1 ∨ k = 8 ∨ k = 15 ∨ (k ≠ 0 ∧ k ≠ 1 ∧ k ≠ 8 ∧ k ≠ 15)) with hr | hr | hr | hr | hr
      · have f0 : ((k : Int) == 0) = true := beq_iff_eq.2 (by omega)
        have hr2 : rotN k = 1 := by unfold rotN; rw [if_pos (by omega)]
        have HR := Lib.hid hr2; clear hr2 hr
        have t1 := turnN_lt C 1
        have t2 := turnN_lt D 1
        go_wp2_with fail
        refine (turn_at C C rfl 1 1 rfl _ hcl (by omega)).mono ?_
        rintro e w' ⟨rfl, n1, rfl⟩
        go_wp2_with fail
        refine (turn_at D D rfl 1 1 rfl _ hdl (by omega)).mono ?_
        rintro e w' ⟨rfl, n2, rfl⟩
        obtain ⟨C1, hC1⟩ : ∃ C1, turnN C 1 = C1 := ⟨_, rfl⟩
        obtain ⟨D1, hD1⟩ : ∃ D1, turnN D 1 = D1 := ⟨_, rfl⟩
        rw [hC1] at t1 ⊢
        rw [hD1] at t2 ⊢
        have HC1 : Hid (spun c0 (k + 1) = C1) := spun_step HC.out HR.out hC1
        have HD1 : Hid (spun d0 (k + 1) = D1) := spun_step HD.out HR.out hD1
        clear hC1 hD1
        go_wp2_with fail
        refine (permute_at _ (C1 * 268435456 + D1) (or_28 C1 D1 t1 t2) 56 56 rfl _ psPC2 _ (by omega) (by omega) (tab_of (by kernel_rfl))).mono ?_
        rintro e w' ⟨rfl, n3, rfl⟩
        have HKK : Hid (permN (C1 * 268435456 + D1) 56 psPC2 = keyN l k) := key_of HK.out HC1.out HD1.out
        obtain ⟨K1, hK1⟩ : ∃ K1, permN (C1 * 268435456 + D1) 56 psPC2 = K1 := ⟨_, rfl⟩
        rw [hK1] at HKK ⊢
        clear hK1
        go_wp2
        go_roundw
        case rel => exact ⟨k + 1, by omega, by go_num, by rw [HC1.out], by rw [HD1.out], _, key_step' hcs.out hlt HKK.out, ((HB3.out.drewN _).set_ k _), z, hz, ((HB2.out.drewN _).far (by simp) _), (below_drewN HBel.out _).setCell (by simp; omega) _⟩
        case measure => simp [intOf]; omega
      · have f0 : ((k : Int) == 0) = false := beq_eq_false_iff_ne.2 (by omega)
        have f1 : ((k : Int) == 1) = true := beq_iff_eq.2 (by omega)
        have hr2 : rotN k = 1 := by unfold rotN; rw [if_pos (by omega)]
        have HR := Lib.hid hr2; clear hr2 hr
        have t1 := turnN_lt C 1
        have t2 := turnN_lt D 1
        go_wp2_with fail
        refine (turn_at C C rfl 1 1 rfl _ hcl (by omega)).mono ?_
        rintro e w' ⟨rfl, n1, rfl⟩
        go_wp2_with fail
        refine (turn_at D D rfl 1 1 rfl _ hdl (by omega)).mono ?_
        rintro e w' ⟨rfl, n2, rfl⟩
        obtain ⟨C1, hC1⟩ : ∃ C1, turnN C 1 = C1 := ⟨_, rfl⟩
        obtain ⟨D1, hD1⟩ : ∃ D1, turnN D 1 = D1 := ⟨_, rfl⟩
        rw [hC1] at t1 ⊢
        rw [hD1] at t2 ⊢
        have HC1 : Hid (spun c0 (k + 1) = C1) := spun_step HC.out HR.out hC1
        have HD1 : Hid (spun d0 (k + 1) = D1) := spun_step HD.out HR.out hD1
        clear hC1 hD1
        go_wp2_with fail
        refine (permute_at _ (C1 * 268435456 + D1) (or_28 C1 D1 t1 t2) 56 56 rfl _ psPC2 _ (by omega) (by omega) (tab_of (by kernel_rfl))).mono ?_
        rintro e w' ⟨rfl, n3, rfl⟩
        have HKK : Hid (permN (C1 * 268435456 + D1) 56 psPC2 = keyN l k) := key_of HK.out HC1.out HD1.out
        obtain ⟨K1, hK1⟩ : ∃ K1, permN (C1 * 268435456 + D1) 56 psPC2 = K1 := ⟨_, rfl⟩
        rw [hK1] at HKK ⊢
        clear hK1
        go_wp2
        go_roundw
        case rel => exact ⟨k + 1, by omega, by go_num, by rw [HC1.out], by rw [HD1.out], _, key_step' hcs.out hlt HKK.out, ((HB3.out.drewN _).set_ k _), z, hz, ((HB2.out.drewN _).far (by simp) _), (below_drewN HBel.out _).setCell (by simp; omega) _⟩
        case measure => simp [intOf]; omega
      · have f0 : ((k : Int) == 0) = false := beq_eq_false_iff_ne.2 (by omega)
        have f1 : ((k : Int) == 1) = false := beq_eq_false_iff_ne.2 (by omega)
        have f8 : ((k : Int) == 8) = true := beq_iff_eq.2 (by omega)
        have hr2 : rotN k = 1 := by unfold rotN; rw [if_pos (by omega)]
        have HR := Lib.hid hr2; clear hr2 hr
        have t1 := turnN_lt C 1
        have t2 := turnN_lt D 1
        go_wp2_with fail
        refine (turn_at C C rfl 1 1 rfl _ hcl (by omega)).mono ?_
        rintro e w' ⟨rfl, n1, rfl⟩
        go_wp2_with fail
        refine (turn_at D D rfl 1 1 rfl _ hdl (by omega)).mono ?_
        rintro e w' ⟨rfl, n2, rfl⟩
        obtain ⟨C1, hC1⟩ : ∃ C1, turnN C 1 = C1 := ⟨_, rfl⟩
        obtain ⟨D1, hD1⟩ : ∃ D1, turnN D 1 = D1 := ⟨_, rfl⟩
        rw [hC1] at t1 ⊢
        rw [hD1] at t2 ⊢
        have HC1 : Hid (spun c0 (k + 1) = C1) := spun_step HC.out HR.out hC1
        have HD1 : Hid (spun d0 (k + 1) = D1) := spun_step HD.out HR.out hD1
        clear hC1 hD1
        go_wp2_with fail
        refine (permute_at _ (C1 * 268435456 + D1) (or_28 C1 D1 t1 t2) 56 56 rfl _ psPC2 _ (by omega) (by omega) (tab_of (by kernel_rfl))).mono ?_
        rintro e w' ⟨rfl, n3, rfl⟩
        have HKK : Hid (permN (C1 * 268435456 + D1) 56 psPC2 = keyN l k) := key_of HK.out HC1.out HD1.out
        obtain ⟨K1, hK1⟩ : ∃ K1, permN (C1 * 268435456 + D1) 56 psPC2 = K1 := ⟨_, rfl⟩
        rw [hK1] at HKK ⊢
        clear hK1
        go_wp2
        go_roundw
        case rel => exact ⟨k + 1, by omega, by go_num, by rw [HC1.out], by rw [HD1.out], _, key_step' hcs.out hlt HKK.out, ((HB3.out.drewN _).set_ k _), z, hz, ((HB2.out.drewN _).far (by simp) _), (below_drewN HBel.out _).setCell (by simp; omega) _⟩
        case measure => simp [intOf]; omega
      · have f0 : ((k : Int) == 0) = false := beq_eq_false_iff_ne.2 (by omega)
        have f1 : ((k : Int) == 1) = false := beq_eq_false_iff_ne.2 (by omega)
        have f8 : ((k : Int) == 8) = false := beq_eq_false_iff_ne.2 (by omega)
        have f15 : ((k : Int) == 15) = true := beq_iff_eq.2 (by omega)
        have hr2 : rotN k = 1 := by unfold rotN; rw [if_pos (by omega)]
        have HR := Lib.hid hr2; clear hr2 hr
        have t1 := turnN_lt C 1
        have t2 := turnN_lt D 1
        go_wp2_with fail
        refine (turn_at C C rfl 1 1 rfl _ hcl (by omega)).mono ?_
        rintro e w' ⟨rfl, n1, rfl⟩
        go_wp2_with fail
        refine (turn_at D D rfl 1 1 rfl _ hdl (by omega)).mono ?_
        rintro e w' ⟨rfl, n2, rfl⟩
        obtain ⟨C1, hC1⟩ : ∃ C1, turnN C 1 = C1 := ⟨_, rfl⟩
        obtain ⟨D1, hD1⟩ : ∃ D1, turnN D 1 = D1 := ⟨_, rfl⟩
        rw [hC1] at t1 ⊢
        rw [hD1] at t2 ⊢
        have HC1 : Hid (spun c0 (k + 1) = C1) := spun_step HC.out HR.out hC1
        have HD1 : Hid (spun d0 (k + 1) = D1) := spun_step HD.out HR.out hD1
        clear hC1 hD1
        go_wp2_with fail
        refine (permute_at _ (C1 * 268435456 + D1) (or_28 C1 D1 t1 t2) 56 56 rfl _ psPC2 _ (by omega) (by omega) (tab_of (by kernel_rfl))).mono ?_
        rintro e w' ⟨rfl, n3, rfl⟩
        have HKK : Hid (permN (C1 * 268435456 + D1) 56 psPC2 = keyN l k) := key_of HK.out HC1.out HD1.out
        obtain ⟨K1, hK1⟩ : ∃ K1, permN (C1 * 268435456 + D1) 56 psPC2 = K1 := ⟨_, rfl⟩
        rw [hK1] at HKK ⊢
        clear hK1
        go_wp2
        go_roundw
        case rel => exact ⟨k + 1, by omega, by go_num, by rw [HC1.out], by rw [HD1.out], _, key_step' hcs.out hlt HKK.out, ((HB3.out.drewN _).set_ k _), z, hz, ((HB2.out.drewN _).far (by simp) _), (below_drewN HBel.out _).setCell (by simp; omega) _⟩
        case measure => simp [intOf]; omega
      · have f0 : ((k : Int) == 0) = false := beq_eq_false_iff_ne.2 (by omega)
        have f1 : ((k : Int) == 1) = false := beq_eq_false_iff_ne.2 (by omega)
        have f8 : ((k : Int) == 8) = false := beq_eq_false_iff_ne.2 (by omega)
        have f15 : ((k : Int) == 15) = false := beq_eq_false_iff_ne.2 (by omega)
        have hr2 : rotN k = 2 := by unfold rotN; rw [if_neg (by omega)]
        have HR := Lib.hid hr2; clear hr2 hr
        have t1 := turnN_lt C 2
        have t2 := turnN_lt D 2
        go_wp2_with fail
        refine (turn_at C C rfl 2 2 rfl _ hcl (by omega)).mono ?_
        rintro e w' ⟨rfl, n1, rfl⟩
        go_wp2_with fail
        refine (turn_at D D rfl 2 2 rfl _ hdl (by omega)).mono ?_
        rintro e w' ⟨rfl, n2, rfl⟩
        obtain ⟨C1, hC1⟩ : ∃ C1, turnN C 2 = C1 := ⟨_, rfl⟩
        obtain ⟨D1, hD1⟩ : ∃ D1, turnN D 2 = D1 := ⟨_, rfl⟩
        rw [hC1] at t1 ⊢
        rw [hD1] at t2 ⊢
        have HC1 : Hid (spun c0 (k + 1) = C1) := spun_step HC.out HR.out hC1
        have HD1 : Hid (spun d0 (k + 1) = D1) := spun_step HD.out HR.out hD1
        clear hC1 hD1
        go_wp2_with fail
        refine (permute_at _ (C1 * 268435456 + D1) (or_28 C1 D1 t1 t2) 56 56 rfl _ psPC2 _ (by omega) (by omega) (tab_of (by kernel_rfl))).mono ?_
        rintro e w' ⟨rfl, n3, rfl⟩
        have HKK : Hid (permN (C1 * 268435456 + D1) 56 psPC2 = keyN l k) := key_of HK.out HC1.out HD1.out
        obtain ⟨K1, hK1⟩ : ∃ K1, permN (C1 * 268435456 + D1) 56 psPC2 = K1 := ⟨_, rfl⟩
        rw [hK1] at HKK ⊢
        clear hK1
        go_wp2
        go_roundw
        case rel => exact ⟨k + 1, by omega, by go_num, by rw [HC1.out], by rw [HD1.out], _, key_step' hcs.out hlt HKK.out, ((HB3.out.drewN _).set_ k _), z, hz, ((HB2.out.drewN _).far (by simp) _), (below_drewN HBel.out _).setCell (by simp; omega) _⟩
        case measure => simp [intOf]; omega
    · have e16 : k = 16 := by omega
      subst e16
      have hcz : cs.size = 16 := by rw [hcs.out, size_numCells, fillN_len _ _ _ hk (by simp [roundsN])]
      have hc1 : cs.all (·.oneCell') = true := by rw [hcs.out]; exact numCells_one _ _
      have HCZ := Lib.hid hcz; clear hcz
      have HC1 := Lib.hid hc1; clear hc1 hB3
      go_wp2_with (first
        | (refine wpList_load_row rfl 115 (.tmp 3) rfl (w.heap.size + 1 + 1) rfl 115 cs (0,0) _ HB3.out Tryd.underlying115 rfl (by rw [info_16u64, HCZ.out]) ?_)
        | (refine wpList_store_row rfl 115 (.tmp 2) (.tmp 39) rfl (w.heap.size + 1) cs rfl rfl 115 z HB2.out (by rw [info_16u64, HCZ.out]) (by rw [HCZ.out, hz.out]) HC1.out ?_))
      refine bodyPost_ret (v := .agg cs) (results_cell_row rfl _ _ (w.heap.size + 1) 115 cs (0,0) _ rfl (setRow_heap _ _ _ _ _ _ HB2.out) Tryd.underlying115 rfl (by rw [info_16u64, HCZ.out])) rfl ⟨by rw [hcs.out, fillN_end _ _ (by simp [roundsN])], ?_⟩
      exact below_setRow HBel.out (by omega) _
end Go.Proofs.YtgffppmpmjaknaaDoor
