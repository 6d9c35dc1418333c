/- The contracts of lockboxref08.Unhex, lockboxref06.Xor. -/
import Derived.Test.YtnkgglmfoimbhaaGreatDoorRefW
import Derived.Test.YtnkgglmfoimbhaaGreatDoorRef3BC
namespace Go.Proofs.YtnkgglmfoimbhaaGreatDoor
open Go Go.RowKit Pr

set_option maxHeartbeats 2000000 in
set_option maxRecDepth 100000 in
theorem unhexR_any (s : ByteArray) (hs : s.size ≤ 100000) (hx : ∀ c ∈ s.data.toList, isHex c = true) (hev : s.size % 2 = 0) (w : World) :
    Calls Tryz.prog 45 #[.string s] w fun e w' => (∃ v, e = .returned v ∧ Own w' w.heap.size v (unhexL s.data.toList)) ∧ Below w.heap.size w w' := by
  have HE := Lib.hid hev; clear hev
  have hlist : s.data.toList.length = s.size := by simp
  have HLL := Lib.hid hlist; clear hlist
  have HALL := Lib.hid hx; clear hx
  go_enter Tryz.func45, Tryz.ntmps45
  go_wp2
  go_loopw [3, 4] (fun v i wr => ∃ j k : Nat, Hid (k = 2 * j) ∧ k ≤ s.size ∧ i = .int .i64 k ∧ Own wr w.heap.size v ((unhexL s.data.toList).take j) ∧ Below w.heap.size w wr ∧ w.heap.size ≤ wr.heap.size) (fun _ i _ => s.size - (intOf i).toNat)
  case atStart => exact ⟨0, 0, rfl, by omega, rfl, Own.nil _ _, Below.refl _ _, Nat.le_refl _⟩
  case round =>
    obtain ⟨j, k, hk, hks, rfl, hown, hbel, hsz⟩ := hrel
    by_cases hlt : k < s.size
    · have hlt2 : k + 1 < s.size := by have := HE.out; have := hk.out; omega
      have hj : j < s.data.toList.length / 2 := by rw [HLL.out]; have := hk.out; omega
      obtain ⟨ca, hca⟩ : ∃ c, s[k] = c := ⟨_, rfl⟩
      obtain ⟨cb, hcb⟩ : ∃ c, s[k + 1] = c := ⟨_, rfl⟩
      have i1 := index_str (P := Tryz.prog) 9 Tryz.underlying9 s k hlt k rfl ca.toNat (by rw [hca])
      have i2 := index_str (P := Tryz.prog) 9 Tryz.underlying9 s (k + 1) hlt2 ((k : Int) + 1) (by omega) cb.toNat (by rw [hcb])
      have ga : isHex ca = true := HALL.out ca (by rw [← hca]; exact List.getElem_mem (l := s.data.toList) (by rw [HLL.out]; exact hlt))
      have gb : isHex cb = true := HALL.out cb (by rw [← hcb]; exact List.getElem_mem (l := s.data.toList) (by rw [HLL.out]; exact hlt2))
      have ha : unhexAt s.data.toList j = 16 * hexv ca + hexv cb := by
        unfold unhexAt
        rw [← hk.out, List.getD_eq_getElem?_getD, List.getD_eq_getElem?_getD, List.getElem?_eq_getElem (by rw [HLL.out]; exact hlt), List.getElem?_eq_getElem (by rw [HLL.out]; exact hlt2)]
        simp only [Option.getD_some, get_list s k hlt, get_list s (k + 1) hlt2, hca, hcb]
        omega
      have x1 := fun W => value_any ca _ rfl W
      have x2 := fun W => value_any cb _ rfl W
      simp only [valR_hexv _ ga] at x1
      simp only [valR_hexv _ gb] at x2
      have va := hexv_lt _ ga
      have vb := hexv_lt _ gb
      clear hca hcb ga gb
      generalize hexv ca = a at *
      generalize hexv cb = b at *
      have X1 := Lib.hid x1; clear x1
      have X2 := Lib.hid x2; clear x2
      have HA := Lib.hid ha; clear ha
      have HTK := Lib.hid (unhexL_take s.data.toList j hj)
      have htl : ((unhexL s.data.toList).take j).length = j := by rw [List.length_take, unhexL_len]; omega
      obtain ⟨L, hL⟩ : ∃ L, (unhexL s.data.toList).take j = L := ⟨_, rfl⟩
      rw [hL] at HTK htl hown
      have hLl : L.length ≤ 100000 := by have := hk.out; omega
      clear hL htl
      have e1 : IntKind.u8.wrap (16 * (a : Int) + (b : Int)) = ((16 * a + b : Nat) : Int) := by simp [IntKind.wrap, IntKind.bits, IntKind.signed]; omega
      obtain ⟨d, hd⟩ : ∃ d, 16 * a + b = d := ⟨_, rfl⟩
      rw [hd] at e1 HA
      clear hd
      have hsz2 : w.heap.size ≤ wr.drew.heap.size := by simpa using hsz
      go_wp2_with fail
      refine wp_region_tree (.q 0 (.q 1 (.q 2 (.q 3 (.q 6 (.q 7 (.q 8 (.q 9 (.e [4] fun _ => .q 5 (.e [10] fun _ => .q 11 (.q 12 (.e [13] fun _ => .e [14] fun _ => .q 15 (.done))))))))))))) (fun _ => True) rfl (by kernel_rfl) (fun _ _ d _ _ h => by cases d <;> exact h) ?_
      iterate 3 (refine t_q rfl rfl trivial _ (fun W hW => by (go_simp; rfl)) ?_; go_simp)
      refine t_q rfl rfl trivial (.int .u8 (ca.toNat : Int)) (fun W hW => by (go_simp)) ?_
      go_simp
      iterate 2 (refine t_q rfl rfl trivial _ (fun W hW => by (go_simp; rfl)) ?_; go_simp)
      have hE1 : IntKind.i64.wrap ((k : Int) + 1) = (k : Int) + 1 := IntWalk.i64_in _ (by omega)
      refine t_q rfl rfl trivial (.int .i64 ((k : Int) + 1)) (fun W hW => by (go_simp)) ?_
      go_simp
      refine t_q rfl rfl trivial (.int .u8 (cb.toNat : Int)) (fun W hW => by (go_simp)) ?_
      go_simp
      refine t_e rfl rfl fun K hK => ?_
      go_simp
      refine (X1.out _).mono ?_
      rintro e wy ⟨rfl, rfl⟩
      refine hK _ _ trivial ?_
      clear hK K
      go_simp
      have e2 : IntKind.i64.wrap (16 * (a : Int)) = 16 * (a : Int) := IntWalk.i64_in _ (by omega)
      refine t_q rfl rfl trivial (.int .i64 (16 * (a : Int))) (fun W hW => by (go_simp)) ?_
      go_simp
      refine t_e rfl rfl fun K hK => ?_
      go_simp
      refine (X2.out _).mono ?_
      rintro e wy ⟨rfl, rfl⟩
      refine hK _ _ trivial ?_
      clear hK K
      go_simp
      have e3 : IntKind.i64.wrap (16 * (a : Int) + (b : Int)) = 16 * (a : Int) + (b : Int) := IntWalk.i64_in _ (by omega)
      refine t_q rfl rfl trivial (.int .i64 (16 * (a : Int) + (b : Int))) (fun W hW => by (go_simp)) ?_
      go_simp
      refine t_q rfl rfl trivial (.int .u8 (d : Int)) (fun W hW => by (go_simp)) ?_
      go_simp
      refine t_e rfl rfl fun K hK => ?_
      go_simp
      refine hK _ _ trivial ?_
      clear hK K
      change wpT _ _ _ _ _ _ (wr.drew.alloc (.cells #[.int .u8 (d : Int)] 5))
      refine t_e rfl rfl fun K hK => ?_
      refine op_append_nums (.tmp 12) (.tmp 25) 31 rfl .u8 5 1 Tryz.underlying31 info_byte w.heap.size w _ L rfl (OwnN.below hown ((below_drewN (Below.refl wr.heap.size wr) 1).alloc (Nat.le_refl _) _) (Nat.le_refl _)) ((below_drewN hbel 1).alloc hsz2 _) (by simp; omega) _ 1 1 [d] rfl rfl ⟨_, _, rfl, Ns.new .u8 wr.drew 5 d⟩ (by omega) (by omega) fun v6 w6 hown6 hbel6 hsz6 => ?_
      have hnx : L ++ [d] = (unhexL s.data.toList).take (j + 1) := by rw [HTK.out, HA.out]
      rw [hnx] at hown6
      refine hK _ _ trivial ?_
      clear hK K
      go_simp
      refine t_q rfl rfl trivial _ (fun W hW => by (go_simp; rfl)) ?_
      go_simp
      refine t_done ?_
      have hsz7 : w.heap.size ≤ w6.heap.size := hbel6.size
      go_wp2
      go_roundw
      case rel => exact ⟨j + 1, k + 2, (by have := hk.out; exact (by omega : k + 2 = 2 * (j + 1))), by omega, by go_num, hown6, hbel6, hsz7⟩
      case measure => simp [intOf]; omega
    · have hfin : (unhexL s.data.toList).take j = unhexL s.data.toList := List.take_of_length_le (by rw [unhexL_len, HLL.out]; have := hk.out; have := HE.out; omega)
      rw [hfin] at hown
      have hks2 : ¬ (k : Int) + 1 < (s.size : Int) := by omega
      clear hfin
      go_wp2
      go_ret
      exact ⟨⟨_, rfl, hown⟩, hbel⟩

theorem u8_xor_bytes (a b : Nat) (ha : a < 256) (hb : b < 256) : bits .xor .u8 (a : Int) (b : Int) = ((a ^^^ b : Nat) : Int) := u8_xor_nat a b ha hb
theorem getD_lt256 (l : List Nat) (h : ∀ b ∈ l, b < 256) (i : Nat) : l.getD i 0 < 256 := by
  rw [List.getD_eq_getElem?_getD]
  rcases hq : l[i]? with _ | c
  · simp
  · exact h c (List.mem_of_getElem? hq)

set_option maxHeartbeats 2000000 in
set_option maxRecDepth 100000 in
theorem xorR_any (x y : List Nat) (hx : x.length = 8) (hy : y.length = 8) (gx : ∀ c ∈ x, c < 256) (gy : ∀ c ∈ y, c < 256) (A B : Option Addr) (ca cb : Nat) (w : World) (hA : At w A x) (hB : At w B y) :
    Calls Tryz.prog 64 #[.slice A 8 ca, .slice B 8 cb] w fun e w' => (∃ v, e = .returned v ∧ Own w' w.heap.size v (xorN x y)) ∧ Below w.heap.size w w' := by
  obtain ⟨b1, o1, rfl, hN1⟩ := hA (by intro h; rw [h] at hx; cases hx)
  obtain ⟨b2, o2, rfl, hN2⟩ := hB (by intro h; rw [h] at hy; cases hy)
  have hl1 := hN1.lt (by intro h; rw [h] at hx; cases hx)
  have hl2 := hN2.lt (by intro h; rw [h] at hy; cases hy)
  have hc1 : ∀ i, i < 8 → ∀ W, Below w.heap.size w W → W.cell? ⟨b1, o1 + i, none⟩ = some (.int .u8 (x.getD i 0 : Nat)) := fun i hi W hW => by
    rw [getD_of _ _ (by omega)]; exact (hN1.below hW hl1).cell i (by omega)
  have hc2 : ∀ i, i < 8 → ∀ W, Below w.heap.size w W → W.cell? ⟨b2, o2 + i, none⟩ = some (.int .u8 (y.getD i 0 : Nat)) := fun i hi W hW => by
    rw [getD_of _ _ (by omega)]; exact (hN2.below hW hl2).cell i (by omega)
  have HC1 := Lib.hid hc1; clear hc1
  have HC2 := Lib.hid hc2; clear hc2
  have HT := Lib.hid (fun k hk => xorTo_take x y 8 hx hy k hk)
  have HG1 := Lib.hid (fun i => getD_lt256 x gx i)
  have HG2 := Lib.hid (fun i => getD_lt256 y gy i)
  have hxl : (xorTo x y 8).length = 8 := by rw [xorTo_len, hx]
  unfold xorN
  generalize xorTo x y 8 = X at *
  have HXL := Lib.hid hxl; clear hxl
  clear hN1 hN2 hA hB hx hy gx gy
  go_enter Tryz.func64, Tryz.ntmps64
  go_wp2
  go_loopw [5, 6] (fun v i wr => ∃ k : Nat, k ≤ 8 ∧ i = .int .i64 k ∧ Own wr w.heap.size v (X.take k) ∧ Below w.heap.size w wr) (fun _ i _ => 8 - (intOf i).toNat)
  case atStart => exact ⟨0, by omega, rfl, Own.nil _ _, Below.refl _ _⟩
  case round =>
    obtain ⟨k, hk, rfl, hown, hbel⟩ := hrel
    by_cases hlt : k < 8
    · have hki : (k : Int) < 8 := by omega
      have hst := HT.out k hlt
      have hx := u8_xor_bytes _ _ (HG1.out k) (HG2.out k)
      have hL1 := fun W hW => HC1.out k hlt W hW
      have hL2 := fun W hW => HC2.out k hlt W hW
      generalize x.getD k 0 = x1 at *
      generalize y.getD k 0 = x2 at *
      generalize x1 ^^^ x2 = z at *
      have hl4 : (X.take k).length ≤ 8 := by rw [List.length_take]; omega
      obtain ⟨T, hT⟩ : ∃ T, X.take k = T := ⟨_, rfl⟩
      rw [hT] at hst hown hl4
      clear hT
      have HST := Lib.hid hst; clear hst
      have HX := Lib.hid hx; clear hx
      have HL1 := Lib.hid hL1; clear hL1
      have HL2 := Lib.hid hL2; clear hL2
      go_wp2_with fail
      refine wp_region_tree (.q 0 (.q 1 (.q 2 (.q 3 (.q 4 (.q 5 (.q 6 (.q 7 (.q 8 (.q 9 (.e [10] fun _ => .e [11] fun _ => .q 12 (.done)))))))))))) (fun W => Below w.heap.size w W) rfl (by kernel_rfl) (fun _ _ d _ _ h => by cases d <;> exact h) ?_
      have hw3 : Below w.heap.size w wr.drew := below_drewN hbel 1
      have hszr : w.heap.size ≤ wr.heap.size := hbel.size
      iterate 3 (refine t_q rfl rfl hw3 _ (fun W hW => by (go_simp; rfl)) ?_; go_simp)
      refine t_q rfl rfl hw3 (.pointer (some ⟨b1, o1 + k, none⟩)) (fun W hW => by go_simp) ?_
      go_simp
      refine t_q rfl rfl hw3 (.int .u8 (x1 : Nat)) (fun W hW => by (have hc := HL1.out W hW; go_simp)) ?_
      go_simp
      iterate 2 (refine t_q rfl rfl hw3 _ (fun W hW => by (go_simp; rfl)) ?_; go_simp)
      refine t_q rfl rfl hw3 (.pointer (some ⟨b2, o2 + k, none⟩)) (fun W hW => by go_simp) ?_
      go_simp
      refine t_q rfl rfl hw3 (.int .u8 (x2 : Nat)) (fun W hW => by (have hc := HL2.out W hW; go_simp)) ?_
      go_simp
      refine t_q rfl rfl hw3 (.int .u8 (z : Nat)) (fun W hW => by (go_simp; exact HX.out)) ?_
      go_simp
      refine t_e rfl rfl fun K hK => ?_
      go_simp
      refine hK _ _ (hw3.alloc (by simpa using hszr) _) ?_
      clear hK K
      change wpT _ _ _ _ _ _ (wr.drew.alloc (.cells #[.int .u8 (z : Int)] 5))
      have hown4 : OwnN 5 .u8 (wr.drew.alloc (.cells #[.int .u8 (z : Int)] 5)) w.heap.size _ T := OwnN.below hown ((below_drewN (Below.refl wr.heap.size wr) 1).alloc (Nat.le_refl _) _) (Nat.le_refl _)
      refine t_e rfl rfl fun K hK => ?_
      refine op_append_nums (.tmp 19) (.tmp 29) 31 rfl .u8 5 1 Tryz.underlying31 info_byte w.heap.size w _ T rfl hown4 (hw3.alloc (by simpa using hszr) _) (by simp; omega) _ 1 1 [z] rfl rfl ⟨_, _, rfl, Ns.new .u8 wr.drew 5 z⟩ (by omega) (by omega) fun v5 w5 hown5 hbel5 hsz5 => ?_
      rw [← HST.out] at hown5
      refine hK _ _ hbel5 ?_
      clear hK K
      go_simp
      refine t_q rfl rfl hbel5 _ (fun W hW => by (go_simp; rfl)) ?_
      go_simp
      refine t_done ?_
      go_wp2
      go_roundw
      case rel => exact ⟨k + 1, by omega, by go_num, hown5, hbel5⟩
      case measure => simp [intOf]; omega
    · obtain rfl : k = 8 := by omega
      have hfin : X.take 8 = X := List.take_of_length_le (by rw [HXL.out]; exact Nat.le_refl _)
      rw [hfin] at hown
      clear hfin
      go_wp2
      go_ret
      exact ⟨⟨_, rfl, hown⟩, hbel⟩
end Go.Proofs.YtnkgglmfoimbhaaGreatDoor
