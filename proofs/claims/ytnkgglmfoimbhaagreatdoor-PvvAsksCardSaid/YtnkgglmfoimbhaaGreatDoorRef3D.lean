/- The contract of lockboxref03.mix. -/
import Derived.Test.YtnkgglmfoimbhaaGreatDoorRef3BC
namespace Go.Proofs.YtnkgglmfoimbhaaGreatDoor
open Go Go.RowKit Pr

/-- the eight boxes' texts, as the reference lays them -/
def boxCells : Array Value := #[.string (boxS 0), .string (boxS 1), .string (boxS 2), .string (boxS 3), .string (boxS 4), .string (boxS 5), .string (boxS 6), .string (boxS 7)]
theorem boxCells_get : ∀ i, i < 8 → boxCells[i]? = some (.string (boxS i)) := fun i hi => by
  rcases (by omega : i = 0 ∨ i = 1 ∨ i = 2 ∨ i = 3 ∨ i = 4 ∨ i = 5 ∨ i = 6 ∨ i = 7) with rfl | rfl | rfl | rfl | rfl | rfl | rfl | rfl <;> rfl
theorem i64_xor_bits (a b : Nat) (ha : a < 2) (hb : b < 2) : bits .xor .i64 (a : Int) (b : Int) = ((a ^^^ b : Nat) : Int) := by
  rcases (by omega : a = 0 ∨ a = 1) with rfl | rfl <;> rcases (by omega : b = 0 ∨ b = 1) with rfl | rfl <;> rfl
theorem sixR_len (h k : List Nat) (i : Nat) : (sixR h k i).length = 6 := by simp [sixR]
theorem sixR_take (h k : List Nat) (i j : Nat) (hj : j < 6) : (sixR h k i).take (j + 1) = (sixR h k i).take j ++ [h.getD ((4 * i + j + 31) % 32) 0 ^^^ k.getD (6 * i + j) 0] := by
  rw [List.take_succ_eq_append_getElem (by rw [sixR_len]; exact hj)]
  simp [sixR]
theorem xor_lt2 (a b : Nat) (ha : a < 2) (hb : b < 2) : a ^^^ b < 2 := Nat.xor_lt_two_pow (n := 1) ha hb
theorem getD_lt2 (l : List Nat) (h : ∀ b ∈ l, b < 2) (i : Nat) : l.getD i 0 < 2 := by
  rw [List.getD_eq_getElem?_getD]
  rcases hq : l[i]? with _ | c
  · simp
  · exact h c (List.mem_of_getElem? hq)
theorem outR_len (h k : List Nat) : ∀ i, (outR h k i).length = 4 * i
  | 0 => rfl
  | i + 1 => by rw [outR, List.length_append, outR_len h k i]; simp [nibR]; omega
/-- where a box's digit stands, of six bits -/
def six0 (a b c d e f : Nat) : Nat := 16 * (2 * a + f) + (8 * b + 4 * c + 2 * d + e)
def nib4 (x : Nat) : List Nat := [x / 8 % 2, x / 4 % 2, x / 2 % 2, x % 2]
theorem Ns.new4 (W : World) (t : TypeId) (x : Nat) : Ns .i64 (W.alloc (.cells #[.int .i64 ((x : Int) / 8 % 2), .int .i64 ((x : Int) / 4 % 2), .int .i64 ((x : Int) / 2 % 2), .int .i64 ((x : Int) % 2)] t)) W.heap.size 0 (nib4 x) :=
  Blk.range (Blk.new W t _) 0 _ (fun j v hv => by
    rw [Nat.zero_add]
    simp only [numCells, nib4, List.map_cons, List.map_nil] at hv
    match j, hv with
    | 0, hv => simpa using hv
    | 1, hv => simpa using hv
    | 2, hv => simpa using hv
    | 3, hv => simpa using hv)
theorem six0_lt (a b c d e f : Nat) (ha : a < 2) (hb : b < 2) (hc : c < 2) (hd : d < 2) (he : e < 2) (hf : f < 2) : six0 a b c d e f < 64 := by unfold six0; omega
theorem hexN_box (i : Nat) (hi : i < 8) (j : Nat) (hj : j < 64) : hexN (tb (boxS i) j) = (boxes.getD i []).getD j 0 ∧ 48 ≤ tb (boxS i) j ∧ tb (boxS i) j < 256 ∧ (boxes.getD i []).getD j 0 < 16 := by
  obtain ⟨h1, h2⟩ := boxS_dig i hi j hj
  rw [h1]
  generalize (boxes.getD i []).getD j 0 = d at *
  unfold hexN
  split <;> split <;> omega

set_option maxHeartbeats 4000000 in
set_option maxRecDepth 100000 in
theorem mix3_any (half key : List Nat) (hh : half.length = 32) (hk : key.length = 48) (gh : ∀ b ∈ half, b < 2) (gk : ∀ b ∈ key, b < 2) (A B : Option Addr) (ca cb : Nat) (w : World) (hA : AtN .i64 w A half) (hB : AtN .i64 w B key) :
    Calls Tryz.prog 105 #[.slice A half.length ca, .slice B key.length cb] w fun e w' => (∃ v, e = .returned v ∧ OwnN 3 .i64 w' w.heap.size v (mixR half key)) ∧ Below w.heap.size w w' := by
  rw [hh, hk]
  obtain ⟨b1, o1, rfl, hN1⟩ := hA (by intro h; rw [h] at hh; cases hh)
  obtain ⟨b2, o2, rfl, hN2⟩ := hB (by intro h; rw [h] at hk; cases hk)
  have hl1 := hN1.lt (by intro h; rw [h] at hh; cases hh)
  have hl2 := hN2.lt (by intro h; rw [h] at hk; cases hk)
  have hc1 : ∀ i, i < 32 → ∀ W, Below w.heap.size w W → W.cell? ⟨b1, o1 + i, none⟩ = some (.int .i64 (half.getD i 0 : Nat)) := fun i hi W hW => by
    rw [getD_of _ _ (by omega)]; exact (hN1.below hW hl1).cell i (by omega)
  have hc2 : ∀ i, i < 48 → ∀ W, Below w.heap.size w W → W.cell? ⟨b2, o2 + i, none⟩ = some (.int .i64 (key.getD i 0 : Nat)) := fun i hi W hW => by
    rw [getD_of _ _ (by omega)]; exact (hN2.below hW hl2).cell i (by omega)
  have HC1 := Lib.hid hc1; clear hc1
  have HC2 := Lib.hid hc2; clear hc2
  have g1 := fun i => getD_lt2 half gh i
  have g2 := fun i => getD_lt2 key gk i
  clear hN1 hN2 hA hB hh hk gh gk
  have HG1 := Lib.hid g1; clear g1
  have HG2 := Lib.hid g2; clear g2
  have hBX : Blk (w.alloc (.cells boxCells 9)) w.heap.size 9 boxCells := Blk.new _ _ _
  have hbel0 : Below w.heap.size w (w.alloc (.cells boxCells 9)) := (Below.refl _ _).alloc (Nat.le_refl _) _
  have HBX := Lib.hid hBX; clear hBX
  go_enter Tryz.func105, Tryz.ntmps105
  go_wp2
  go_loopw [6, 7] (fun v i wr => ∃ k : Nat, k ≤ 8 ∧ i = .int .i64 k ∧ OwnN 3 .i64 wr (w.heap.size + 1) v (outR half key k) ∧ Below (w.heap.size + 1) (w.alloc (.cells boxCells 9)) wr) (fun _ i _ => 8 - (intOf i).toNat)
  case atStart => exact ⟨0, by omega, rfl, OwnN.nil _ _ _ _, Below.refl _ _⟩
  case round =>
    obtain ⟨k, hk, rfl, hown, hbel1⟩ := hrel
    have hbx := HBX.out.below hbel1 (by omega)
    have hsz : w.heap.size < wr.heap.size := by have := hbel1.size; simp at this; omega
    have hbel : Below w.heap.size w wr := hbel0.trans (hbel1.mono (by simp))
    by_cases hlt : k < 8
    · have hki : (k : Int) < 8 := by omega
      obtain ⟨wo, rfl⟩ : ∃ wo, wo = wr := ⟨_, rfl⟩
      have hstep : outR half key (k + 1) = outR half key k ++ nibR half key k := rfl
      have hS6 : ∀ j, j < 6 → (sixR half key k).take (j + 1) = (sixR half key k).take j ++ [half.getD ((4 * k + j + 31) % 32) 0 ^^^ key.getD (6 * k + j) 0] := fun j hj => sixR_take half key k j hj
      have HS6 := Lib.hid hS6; clear hS6
      have HSTEP := Lib.hid hstep; clear hstep
      have hol := outR_len half key k
      obtain ⟨O, hO⟩ : ∃ O, outR half key k = O := ⟨_, rfl⟩
      rw [hO] at hown hol HSTEP
      have HO := Lib.hid hO; clear hO
      obtain ⟨X6, hX6⟩ : ∃ X, sixR half key k = X := ⟨_, rfl⟩
      rw [hX6] at HS6
      have hnib : nibR half key k = nib4 ((boxes.getD k []).getD (six0 (X6.getD 0 0) (X6.getD 1 0) (X6.getD 2 0) (X6.getD 3 0) (X6.getD 4 0) (X6.getD 5 0)) 0) := by unfold nibR; rw [hX6]; rfl
      rw [hnib] at HSTEP
      clear hnib
      have hX6l : X6.length = 6 := by rw [← hX6]; exact sixR_len _ _ _
      have hX6b : ∀ b ∈ X6, b < 2 := by
        rw [← hX6]
        intro b hb
        simp only [sixR, List.mem_map] at hb
        obtain ⟨j, _, rfl⟩ := hb
        exact xor_lt2 _ _ (HG1.out _) (HG2.out _)
      have HX6 := Lib.hid hX6; clear hX6
      have HX6L := Lib.hid hX6l; clear hX6l
      have HX6B := Lib.hid hX6b; clear hX6b
      go_wp2
      go_loopw [8, 9] (fun v i wr2 => ∃ q : Nat, 1 ≤ q ∧ q ≤ 7 ∧ i = .int .i64 q ∧ OwnN 3 .i64 wr2 wo.heap.size v (X6.take (q - 1)) ∧ Below wo.heap.size wo wr2 ∧ wo.heap.size ≤ wr2.heap.size) (fun _ i _ => 7 - (intOf i).toNat)
      case atStart => exact ⟨1, by omega, by omega, rfl, OwnN.nil _ _ _ _, Below.refl _ _, Nat.le_refl _⟩
      case round =>
        obtain ⟨q, hq1, hq7, rfl, hown2, hbel2, hsz2⟩ := hrel
        by_cases hq : q ≤ 6
        · have hst := HS6.out (q - 1) (by omega)
          rw [show q - 1 + 1 = q by omega] at hst
          have hm1 : (4 * k + (q - 1) + 31) % 32 < 32 := Nat.mod_lt _ (by decide)
          have hm2 : 6 * k + (q - 1) < 48 := by omega
          have hE1 : (IntKind.i64.wrap (IntKind.i64.wrap (IntKind.i64.wrap (IntKind.i64.wrap (4 * (k : Int)) + (q : Int)) - 2) + 32)).tmod 32 = (((4 * k + (q - 1) + 31) % 32 : Nat) : Int) := by
            rw [IntWalk.i64_in (4 * (k : Int)) (by omega), IntWalk.i64_in (4 * (k : Int) + (q : Int)) (by omega), IntWalk.i64_in (4 * (k : Int) + (q : Int) - 2) (by omega), IntWalk.i64_in (4 * (k : Int) + (q : Int) - 2 + 32) (by omega), Int.tmod_eq_emod_of_nonneg (by omega)]
            omega
          have hE2 : IntKind.i64.wrap (IntKind.i64.wrap (IntKind.i64.wrap (6 * (k : Int)) + (q : Int)) - 1) = ((6 * k + (q - 1) : Nat) : Int) := by
            rw [IntWalk.i64_in (6 * (k : Int)) (by omega), IntWalk.i64_in (6 * (k : Int) + (q : Int)) (by omega), IntWalk.i64_in (6 * (k : Int) + (q : Int) - 1) (by omega)]
            omega
          obtain ⟨m1, hm1d⟩ : ∃ m, (4 * k + (q - 1) + 31) % 32 = m := ⟨_, rfl⟩
          obtain ⟨m2, hm2d⟩ : ∃ m, 6 * k + (q - 1) = m := ⟨_, rfl⟩
          rw [hm1d] at hm1 hE1 hst
          rw [hm2d] at hm2 hE2 hst
          clear hm1d hm2d
          have hw2 : Below w.heap.size w wr := hbel.trans (hbel2.mono hbel.size)
          have hx := i64_xor_bits _ _ (HG1.out m1) (HG2.out m2)
          have hx2 := xor_lt2 _ _ (HG1.out m1) (HG2.out m2)
          have hL1 := fun W hW => HC1.out m1 hm1 W hW
          have hL2 := fun W hW => HC2.out m2 hm2 W hW
          generalize half.getD m1 0 = x1 at *
          generalize key.getD m2 0 = x2 at *
          generalize x1 ^^^ x2 = x at *
          have hl4 : (X6.take (q - 1)).length ≤ 6 := by rw [List.length_take]; omega
          obtain ⟨L, hL⟩ : ∃ L, X6.take (q - 1) = L := ⟨_, rfl⟩
          rw [hL] at hst hown2 hl4
          clear hL
          have HST := Lib.hid hst; clear hst
          have HE1 := Lib.hid hE1; clear hE1
          have HE2 := Lib.hid hE2; clear hE2
          have HX := Lib.hid hx; clear hx
          have HL1 := Lib.hid hL1; clear hL1
          have HL2 := Lib.hid hL2; clear hL2
          go_wp2_with fail
          refine wp_region_tree (.q 0 (.q 1 (.q 2 (.q 3 (.q 4 (.q 5 (.q 6 (.q 7 (.q 8 (.q 9 (.q 10 (.q 11 (.q 12 (.q 13 (.q 14 (.q 15 (.q 16 (.q 17 (.q 18 (.q 19 (.e [20] fun _ => .e [21] fun _ => .q 22 .done))))))))))))))))))))) (fun W => Below w.heap.size w W) rfl (by kernel_rfl) (fun _ _ d _ _ h => by cases d <;> exact h) ?_
          have hw3 : Below w.heap.size w wr.drew := below_drewN hw2 1
          iterate 8 (refine t_q rfl rfl hw3 _ (fun W hW => by (go_simp; rfl)) ?_; go_simp)
          refine t_q rfl rfl hw3 (.int .i64 (m1 : Nat)) (fun W hW => by (go_simp; exact HE1.out)) ?_
          go_simp
          have hm1i : (m1 : Int) < 32 := by omega
          have hm2i : (m2 : Int) < 48 := by omega
          refine t_q rfl rfl hw3 (.pointer (some ⟨b1, o1 + m1, none⟩)) (fun W hW => by go_simp) ?_
          go_simp
          refine t_q rfl rfl hw3 (.int .i64 (x1 : Nat)) (fun W hW => by (have hc := HL1.out W hW; go_simp)) ?_
          go_simp
          iterate 5 (refine t_q rfl rfl hw3 _ (fun W hW => by (go_simp; rfl)) ?_; go_simp)
          refine t_q rfl rfl hw3 (.int .i64 (m2 : Nat)) (fun W hW => by (go_simp; exact HE2.out)) ?_
          go_simp
          refine t_q rfl rfl hw3 (.pointer (some ⟨b2, o2 + m2, none⟩)) (fun W hW => by go_simp) ?_
          go_simp
          refine t_q rfl rfl hw3 (.int .i64 (x2 : Nat)) (fun W hW => by (have hc := HL2.out W hW; go_simp)) ?_
          go_simp
          refine t_q rfl rfl hw3 (.int .i64 (x : Nat)) (fun W hW => by (go_simp; exact HX.out)) ?_
          go_simp
          refine t_e rfl rfl fun K hK => ?_
          go_simp
          refine hK _ _ (hw3.alloc (by simp; omega) _) ?_
          clear hK K
          change wpT _ _ _ _ _ _ (wr.drew.alloc (.cells #[.int .i64 (x : Int)] 3))
          have hown4 : OwnN 3 .i64 (wr.drew.alloc (.cells #[.int .i64 (x : Int)] 3)) wo.heap.size _ L := OwnN.below hown2 ((below_drewN (Below.refl wr.heap.size wr) 1).alloc (Nat.le_refl _) _) (Nat.le_refl _)
          have hbel4 : Below wo.heap.size wo (wr.drew.alloc (.cells #[.int .i64 (x : Int)] 3)) := (below_drewN hbel2 1).alloc (by simpa using hsz2) _
          refine t_e rfl rfl fun K hK => ?_
          refine op_append_nums (.tmp 22) (.tmp 42) 42 rfl .i64 3 8 Tryz.underlying42 info_int wo.heap.size wo _ L rfl hown4 hbel4 (by simp; omega) _ 1 1 [x] rfl rfl ⟨_, _, rfl, Ns.new .i64 wr.drew 3 x⟩ (by omega) (by omega) fun v5 w5 hown5 hbel5 hsz5 => ?_
          rw [← HST.out] at hown5
          refine hK _ _ (hbel.trans (hbel5.mono hbel.size)) ?_
          clear hK K
          go_simp
          refine t_q rfl rfl (hbel.trans (hbel5.mono hbel.size)) _ (fun W hW => by (go_simp; rfl)) ?_
          go_simp
          refine t_done ?_
          have hsz6 : wo.heap.size ≤ w5.heap.size := hbel5.size
          go_wp2
          go_roundw
          case rel => exact ⟨q + 1, by omega, by omega, by go_num, hown5, hbel5, hsz6⟩
          case measure => simp [intOf]; omega
        · obtain rfl : q = 7 := by omega
          have hq7 : List.take (7 - 1) X6 = X6 := List.take_of_length_le (by rw [HX6L.out]; decide)
          rw [hq7] at hown2
          clear hq7
          obtain ⟨g6, c6, rfl, -, -, hg6, hN6⟩ := hown2.at_ (by intro h; have := HX6L.out; rw [h] at this; cases this)
          rw [HX6L.out]
          have hc6 : ∀ j, j < 6 → wr.cell? ⟨g6, j, none⟩ = some (.int .i64 (X6.getD j 0 : Nat)) := fun j hj => by
            have := hN6.cell j (by rw [HX6L.out]; exact hj)
            rw [Nat.zero_add] at this
            rw [this, getD_of]
          have hb6 : ∀ j, X6.getD j 0 < 2 := fun j => getD_lt2 _ HX6B.out j
          have z0 := hc6 0 (by omega)
          have z1 := hc6 1 (by omega)
          have z2 := hc6 2 (by omega)
          have z3 := hc6 3 (by omega)
          have z4 := hc6 4 (by omega)
          have z5 := hc6 5 (by omega)
          have y0 := hb6 0
          have y1 := hb6 1
          have y2 := hb6 2
          have y3 := hb6 3
          have y4 := hb6 4
          have y5 := hb6 5
          clear hc6 hb6 hown2 hN6
          generalize X6.getD 0 0 = s0 at *
          generalize X6.getD 1 0 = s1 at *
          generalize X6.getD 2 0 = s2 at *
          generalize X6.getD 3 0 = s3 at *
          generalize X6.getD 4 0 = s4 at *
          generalize X6.getD 5 0 = s5 at *
          have hJ := six0_lt s0 s1 s2 s3 s4 s5 y0 y1 y2 y3 y4 y5
          have hJd : 16 * (2 * (s0 : Int) + (s5 : Int)) + (8 * (s1 : Int) + 4 * (s2 : Int) + 2 * (s3 : Int) + (s4 : Int)) = (six0 s0 s1 s2 s3 s4 s5 : Nat) := by unfold six0; omega
          obtain ⟨p1, p2, p3, p4⟩ := hexN_box k hlt _ hJ
          have hbs := boxS_size k hlt
          generalize six0 s0 s1 s2 s3 s4 s5 = J at *
          generalize (boxes.getD k []).getD J 0 = x at *
          have hbx2 : wr.cell? ⟨w.heap.size, k, none⟩ = some (.string (boxS k)) := by
            have := (hbx.below hbel2 hsz).cell k
            rw [this, boxCells_get k hlt]
          generalize boxS k = bs at *
          have hix := index_str (P := Tryz.prog) 9 Tryz.underlying9 bs J (by omega) (16 * (2 * (s0 : Int) + (s5 : Int)) + (8 * (s1 : Int) + 4 * (s2 : Int) + 2 * (s3 : Int) + (s4 : Int))) hJd (tb bs J) (tb_of (by omega)).symm
          generalize tb bs J = c at *
          have hdg := fun W => digit3_any c p2 p3 W
          rw [p1] at hdg
          have HDG := Lib.hid hdg
          clear hdg p1 hJd hJ hbs
          go_wp2
          go_quiet (fail)
          go_wp2
          go_quiet (fail)
          go_wp2_with fail
          refine (HDG.out _).mono ?_
          rintro e wz ⟨rfl, rfl⟩
          go_wp2_with (at_builtin; go_loud (refine wpList_append_nums rfl (.tmp 80) (.tmp 92) 42 rfl .i64 3 8 Tryz.underlying42 info_int (w.heap.size + 1) (w.alloc (.cells boxCells 9)) _ O rfl (OwnN.below hown ((below_drewN hbel2 _).alloc (by simpa using hsz2) _) (Nat.le_refl _)) ((hbel1.trans ((below_drewN hbel2 _).mono (by omega))).alloc (by simp; omega) _) (by simp; omega) _ 4 4 (nib4 x) rfl rfl ⟨_, _, rfl, Ns.new4 _ _ _⟩ (by omega) (by omega) ?_); intro v5 w5 hown5 hbel5 hsz5)
          rw [← HSTEP.out] at hown5
          go_wp2
          go_roundw
          case rel => exact ⟨k + 1, by omega, by go_num, hown5, hbel5⟩
          case measure => simp [intOf]; omega
    · obtain rfl : k = 8 := by omega
      have hol := outR_len half key 8
      have hfin : permR (outR half key 8) psP = mixR half key := rfl
      have HFIN := Lib.hid hfin; clear hfin
      obtain ⟨O, hO⟩ : ∃ O, outR half key 8 = O := ⟨_, rfl⟩
      rw [hO] at hown hol HFIN
      clear hO
      obtain ⟨gO, cO, rfl, -, -, hgO, hNO⟩ := hown.at_ (by intro h; rw [h] at hol; cases hol)
      have HP := Lib.hid (fun (tab : ByteArray) (ht : Tab tab 32 psP) W hA => perm3_any O (some ⟨gO, 0, none⟩) cO tab 32 psP ht (by decide) (by rw [hol]; decide) W hA)
      rw [HFIN.out] at HP
      rw [show O.length = 32 from hol] at HP ⊢
      clear hown hol
      go_wp2_with fail
      refine (HP.out _ (tab_of (by kernel_rfl)) _ (fun _ => ⟨_, _, rfl, hNO⟩)).mono ?_
      rintro e w5 ⟨⟨v, rfl, hv⟩, hb5⟩
      go_wp2
      go_ret
      exact ⟨⟨_, rfl, hv.more (by omega)⟩, hbel.trans (hb5.mono (by omega))⟩
end Go.Proofs.YtnkgglmfoimbhaaGreatDoor
