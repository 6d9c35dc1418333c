/- The contracts of lockboxref06.Size, Xor; of lockboxref07.Pad, double. The contract of lockboxref07.double. -/
import Derived.Test.YtfkjkkjimdilcaaGreatDoorQRTD
import Derived.Test.YtfkjkkjimdilcaaGreatDoorQModeM
import Derived.Test.YtfkjkkjimdilcaaGreatDoorQRefQ
set_option maxHeartbeats 8000000
set_option maxRecDepth 100000
/- The contracts of lockboxref06.Size, Xor; of lockboxref07.Pad, double. -/
namespace Go.Proofs.YtfkjkkjimdilcaaGreatDoor
open Go Go.RowKit Pr

theorem refSize_any (kind : Nat) (hk : kind = 1 ∨ kind = 2) (w : World) : Calls Tryz.prog 46 #[.int .i64 kind] w fun e w' => e = .returned (.int .i64 (sizeN kind)) ∧ w = w' := by
 rcases hk with rfl | rfl
 ·
  rw [size_1]
  go_enter Tryz.func46, Tryz.ntmps46
  go_wp2
  go_ret
  exact ⟨rfl, rfl⟩
 ·
  rw [size_2]
  go_enter Tryz.func46, Tryz.ntmps46
  go_wp2
  go_ret
  exact ⟨rfl, rfl⟩

theorem refXor_any (x y : List Nat) (n : Nat) (hx : x.length = n) (hy : y.length = n) (hn : 0 < n) (hn2 : n ≤ 1000) (gx : Byt x) (gy : Byt y) (A B : Option Addr) (ca cb : Nat) (w : World) (hA : At w A x) (hB : At w B y) :
    Calls Tryz.prog 79 #[.slice A n ca, .slice B n cb] w fun e w' => (∃ v, e = .returned v ∧ Own w' w.heap.size v (xorTo x y n)) ∧ Below w.heap.size w w' := by
 have hst := fun k hk => xorTo_take x y n hx hy k hk; have hfin : (xorTo x y n).take n = xorTo x y n := List.take_of_length_le (by rw [xorTo_len, hx]; exact Nat.le_refl _); have hln : (xorTo x y n).length = n := by rw [xorTo_len, hx]
 generalize xorTo x y n = X at *; have HST := Hh hst; clear hst; have HFIN := Hh hfin; clear hfin; have HLN := Hh hln; clear hln; obtain ⟨b1, o1, rfl, hN1⟩ := hA (ne_nil hx (by omega)); obtain ⟨b2, o2, rfl, hN2⟩ := hB (ne_nil hy (by omega)); have hl1 := hN1.lt (ne_nil hx (by omega)); have hl2 := hN2.lt (ne_nil hy (by omega)); have HX := Hh hx; clear hx; have HY := Hh hy; clear hy; have HN1 := Hh hN1; clear hN1; have HN2 := Hh hN2; clear hN2; clear hA hB
 go_enter Tryz.func79, Tryz.ntmps79
 go_wp2
 go_loopw [5, 6] (fun v i wr => ∃ k : Nat, k ≤ n ∧ i = .int .i64 k ∧ OwnN 5 .u8 wr w.heap.size v (X.take k) ∧ Below w.heap.size w wr) (fun _ i _ => n - (intOf i).toNat)
 case atStart => exact ⟨0, by omega, rfl, OwnN.nil _ _ _ _, Below.refl _ _⟩
 case round =>
  obtain ⟨k, hk, rfl, hown, hbel⟩ := hrel
  by_cases hlt : k < n
  ·
   have hsz := hbel.size; have hst := HST.out k hlt; have hll : (X.take k).length ≤ 1000 := by rw [List.length_take]; omega
   have c1 := fun W (hW : Below w.heap.size w W) => (HN1.out.below hW hl1).cellD k (by rw [HX.out]; exact hlt); have c2 := fun W (hW : Below w.heap.size w W) => (HN2.out.below hW hl2).cellD k (by rw [HY.out]; exact hlt); have hxx := u8_xor_nat _ _ (gx.at_ k) (gy.at_ k); generalize x.getD k 0 = x1 at *; generalize y.getD k 0 = y1 at *; generalize x1 ^^^ y1 = z1 at *; obtain ⟨L, hL⟩ : ∃ L, X.take k = L := ⟨_, rfl⟩; rw [hL] at hst hown hll; have HST1 := Hh hst; clear hst hL; have C1 := Hh c1; clear c1; have C2 := Hh c2; clear c2; have HXX := Hh hxx; clear hxx; go_wp2_with fail
   refine wp_region_tree (.q 0 (.q 1 (.q 2 (.q 3 (.q 4 (.q 5 (.q 6 (.q 7 (.q 8 (.q 9 (.e [10] fun _ => .e [11] fun _ => .q 12 (.done)))))))))))) (fun W => Below w.heap.size w W) rfl (by kernel_rfl) (fun _ _ d _ _ h => by cases d <;> exact h) ?_; have hS : Below w.heap.size w wr.drew := below_drewN hbel 1
   iterate 3 (refine t_q rfl rfl hS _ (fun W hW => by (go_simp; rfl)) ?_; go_simp)
   refine t_q rfl rfl hS (.pointer (some ⟨b1, o1 + k, none⟩)) (fun W hW => by go_simp) ?_; go_simp
   refine t_q rfl rfl hS (.int .u8 (x1 : Nat)) (fun W hW => by (have hc := C1.out W hW; go_simp)) ?_; go_simp
   iterate 2 (refine t_q rfl rfl hS _ (fun W hW => by (go_simp; rfl)) ?_; go_simp)
   refine t_q rfl rfl hS (.pointer (some ⟨b2, o2 + k, none⟩)) (fun W hW => by go_simp) ?_; go_simp
   refine t_q rfl rfl hS (.int .u8 (y1 : Nat)) (fun W hW => by (have hc := C2.out W hW; go_simp)) ?_; go_simp
   refine t_q rfl rfl hS (.int .u8 (z1 : Nat)) (fun W hW => by (go_simp; exact HXX.out)) ?_; go_simp
   refine t_e rfl rfl fun K hK => ?_; go_simp
   refine hK _ _ (hS.alloc (by simp; omega) _) ?_; clear hK K
   change wpT _ _ _ _ _ _ (wr.drew.alloc (.cells #[.int .u8 (z1 : Int)] 5))
   have hown4 := OwnN.below hown ((below_drewN (Below.refl wr.heap.size wr) 1).alloc lr (.cells #[.int .u8 (z1 : Int)] 5)) lr; refine t_e rfl rfl fun K hK => ?_; refine op_append_nums (.tmp 19) (.tmp 29) 22 rfl .u8 5 1 Tryz.underlying22 info_byte w.heap.size w _ L rfl hown4 (hS.alloc (by simp; omega) _) (by simp; omega) _ 1 1 [z1] rfl rfl ⟨_, _, rfl, Ns.new .u8 wr.drew 5 z1⟩ (by omega) (by omega) fun v5 w5 hown5 hbel5 hsz5 => ?_; rw [← HST1.out] at hown5; refine hK _ _ hbel5 ?_; clear hK K hown4; go_simp
   refine t_q rfl rfl hbel5 _ (fun W hW => by (go_simp; rfl)) ?_; go_simp
   refine t_done ?_; go_wp2
   go_roundw
   case rel => exact ⟨k + 1, by omega, by go_num, hown5, hbel5⟩
   case measure => simp [intOf]; omega
  ·
   obtain rfl : n = k := by omega
   rw [HFIN.out] at hown; go_wp2
   go_ret
   exact ⟨⟨_, rfl, hown⟩, hbel⟩

/-- a copy of bytes, and one byte more: as an append makes it -/
theorem wpList_append_at {ops : Array Oper} {rest : List Oper} {Q : Exit → Act → World → Prop} {op : Oper} {a : Act} {w : World} (hgd : op.guard = none) (s x : Operand) (ho : op.op = .call { callee := .builtin .append, args := #[s, x], argTypes := #[22, 22] })
    (B : Nat) (w0 : World) (v : Value) (l : List Nat) (hs : a.eval s = v) (hown : OwnN 5 .u8 w B v l) (hbel : Below B w0 w) (hB : B ≤ w.heap.size)
    (A : Option Addr) (m c : Nat) (l2 : List Nat) (hx : a.eval x = .slice A m c) (hm : l2.length = m) (hA : At w A l2) (hm0 : 0 < m) (h63 : l.length + m ≤ 1000000000)
    (h : ∀ v' w', OwnN 5 .u8 w' B v' (l ++ l2) → Below B w0 w' → w.heap.size ≤ w'.heap.size → wpList Tryz.prog ops Q rest (a.put op.dst v') w') : wpList Tryz.prog ops Q (op :: rest) a w :=
 wpList_append_nums hgd s x 22 ho .u8 5 1 Tryz.underlying22 info_byte B w0 v l hs hown hbel hB A m c l2 hx hm (hA (ne_nil hm (by omega))) h63 (by omega) h

theorem padR_step (t : List Nat) (n j : Nat) (hn : 0 < n) (h : (t.length + 1 + j) % n ≠ 0) (hj : j ≤ (n - (t.length + 1) % n) % n) : j < (n - (t.length + 1) % n) % n := by
 rcases Nat.lt_or_ge j ((n - (t.length + 1) % n) % n) with h1 | h1
 ·
  exact h1
 ·
  exfalso
  have e : j = (n - (t.length + 1) % n) % n := by omega
  apply h
  rw [e]; have := (padN_len hn t).1
  unfold padN at this
  rw [List.length_append, List.length_cons, List.length_replicate] at this; rw [← this]
  congr 1
  omega
theorem padR_end (t : List Nat) (n j : Nat) (hn : 0 < n) (h : (t.length + 1 + j) % n = 0) (hj : j ≤ (n - (t.length + 1) % n) % n) : j = (n - (t.length + 1) % n) % n := by
 have hd := Nat.div_add_mod (t.length + 1) n; have hm := Nat.mod_lt (t.length + 1) hn
 rcases Nat.eq_zero_or_pos ((t.length + 1) % n) with h0 | h0
 ·
  rw [h0, Nat.sub_zero, Nat.mod_self] at hj ⊢; omega
 ·
  rw [Nat.mod_eq_of_lt (show n - (t.length + 1) % n < n by omega)] at hj ⊢
  rcases Nat.lt_or_ge j (n - (t.length + 1) % n) with h1 | h1
  ·
   exfalso
   have e : t.length + 1 + j = n * ((t.length + 1) / n) + ((t.length + 1) % n + j) := by omega
   rw [e, Nat.mul_add_mod, Nat.mod_eq_of_lt (by omega)] at h; omega
  ·
   omega

theorem refPad_any (t : List Nat) (L : Nat) (hl : t.length = L) (hL0 : 0 < L) (hL : L ≤ 900) (n : Nat) (hn : n = 8 ∨ n = 16) (A : Option Addr) (ct : Nat) (w : World) (hA : At w A t) :
    Calls Tryz.prog 78 #[.slice A L ct, .int .i64 n] w fun e w' => (∃ v, e = .returned v ∧ Own w' w.heap.size v (padN t n)) ∧ Below w.heap.size w w' := by
 have hpos : 0 < n := by omega
 have hstep := fun j h hj => padR_step t n j hpos h hj; have hend := fun j h hj => padR_end t n j hpos h hj; have hpad : padN t n = t ++ [128] ++ List.replicate ((n - (t.length + 1) % n) % n) 0 := by unfold padN; simp
 rw [hl] at hstep hend hpad; have hp16 : (n - (L + 1) % n) % n ≤ 16 := by rcases hn with rfl | rfl <;> omega
 generalize (n - (L + 1) % n) % n = p at *; generalize padN t n = PT at *; have HSTEP := Hh hstep; clear hstep; have HEND := Hh hend; clear hend; have HPAD := Hh hpad; clear hpad; have hn1 : n ≤ 16 := by omega
 have HL := Hh hl; clear hl; have HN := Hh hn; clear hn; have HA := Hh (fun W (hb : Below w.heap.size w W) => hA.below hb lr); clear hA
 go_enter Tryz.func78, Tryz.ntmps78
 have hb0 : Below w.heap.size w (w.alloc (.cells #[] 5)) := (Below.refl _ _).alloc lr _; have ho0 : OwnN 5 .u8 (w.alloc (.cells #[] 5)) w.heap.size (.slice (some ⟨w.heap.size, 0, none⟩) 0 0) [] := OwnN.start 5 .u8 w w.heap.size lr; have HB0 := Hh hb0; clear hb0; have HO0 := Hh ho0; clear ho0
 go_wp2_with (first
  | (at_builtin; refine wpList_append_at rfl (.tmp 6) (.tmp 7) rfl w.heap.size w _ [] rfl HO0.out HB0.out (by simp) A L ct t rfl HL.out (HA.out _ HB0.out) (by omega) (by simp; omega) ?_; intro v5 w5 hown5 hbel5 hsz5; rw [List.nil_append] at hown5)
  | (at_builtin; refine wpList_append_nums rfl (.tmp 8) (.tmp 9) 22 rfl .u8 5 1 Tryz.underlying22 info_byte w.heap.size w _ t rfl (OwnN.below hown5 ((Below.refl _ _).alloc lr _) lr) (hbel5.alloc hbel5.size _) (by have := hbel5.size; simp; omega) _ 1 1 [128] rfl rfl ⟨_, _, rfl, Ns.new .u8 w5 5 128⟩ (by rw [HL.out]; omega) (by omega) ?_; intro v6 w6 hown6 hbel6 hsz6))
 have hown6' : OwnN 5 .u8 w6 w.heap.size v6 (t ++ [128] ++ List.replicate 0 0) := by simpa using hown6
 have HO6 := Hh hown6'; clear hown6 hown6' hown5 HO0 HB0
 go_loopw [5] (fun v wr => ∃ j : Nat, j ≤ p ∧ OwnN 5 .u8 wr w.heap.size v (t ++ [128] ++ List.replicate j 0) ∧ Below w.heap.size w wr) (fun v _ => L + 1 + p - (match v with | .slice _ l _ => l | _ => 0))
 case atStart => exact ⟨0, by omega, HO6.out, hbel6⟩
 case round =>
  obtain ⟨j, hj, hown, hbel⟩ := hrel; obtain ⟨g, cap, rfl, hg, hcap, -, -⟩ := (OwnN.bytes hown).form (by simp); have hlen : (t ++ [128] ++ List.replicate j 0).length = L + 1 + j := by simp [HL.out]; omega
  have hnext : t ++ [128] ++ List.replicate (j + 1) 0 = (t ++ [128] ++ List.replicate j 0) ++ [0] := by
   rw [List.replicate_succ', List.append_assoc (t ++ [128])]
  rw [hlen] at hcap ⊢; have hsz := hbel.size; obtain ⟨X, hX⟩ : ∃ X, t ++ [128] ++ List.replicate j 0 = X := ⟨_, rfl⟩; have hpx := HPAD.out; rw [hX] at hown hlen hnext; rw [hlen] at hown; obtain ⟨M, hM⟩ : ∃ M, L + 1 + j = M := ⟨_, rfl⟩; have hstep := HSTEP.out j; have hend := HEND.out j; rw [hM] at hcap hlen hown hstep hend ⊢; have hMM : M ≤ 1000 := by omega
  have HXL := Hh hlen; clear hlen; have HNEXT := Hh hnext; clear hnext
  by_cases hz : M % n = 0
  ·
   have hjp := hend hz hj; rw [← hjp, hX] at hpx; have HPX := Hh hpx; clear hpx; have hmi : ((M : Int) % (n : Int) != 0) = false := by rw [bne_eq_false_iff_eq]; omega
   have hw' : Own wr w.heap.size (.slice (some ⟨g, 0, none⟩) M cap) PT := by rw [HPX.out]; exact hown
   have HW := Hh hw'; clear hstep hend hX hjp hz hw' hown hM HPAD; go_wp2
   go_ret
   exact ⟨⟨_, rfl, HW.out⟩, hbel⟩
  ·
   have hjp := hstep hz hj; have hmi : ((M : Int) % (n : Int) != 0) = true := by rw [bne_iff_ne]; omega
   have HOWN : Hid (OwnN 5 .u8 wr w.heap.size (.slice (some ⟨g, 0, none⟩) M cap) X) := by show OwnN _ _ _ _ _ _; exact hown
   clear hstep hend hX hz hpx hown; have HM := Hh hM; clear hM; go_wp2_with (at_builtin; refine wpList_append_nums rfl (.tmp 16) (.tmp 17) 22 rfl .u8 5 1 Tryz.underlying22 info_byte w.heap.size w _ X rfl (OwnN.below HOWN.out ((Below.refl _ _).alloc lr _) lr) (hbel.alloc hsz _) (by simp; omega) _ 1 1 [0] rfl rfl ⟨_, _, rfl, Ns.new .u8 wr 5 0⟩ (by rw [HXL.out]; omega) (by omega) ?_; intro v7 w7 hown7 hbel7 hsz7)
   rw [← HNEXT.out] at hown7; obtain ⟨g7, cap7, rfl, -, hcap7, -, -⟩ := (OwnN.bytes hown7).form (by simp); have HO7 := Hh hown7; clear hown7; go_wp2
   go_roundw
   case rel => exact ⟨j + 1, by omega, HO7.out, hbel7⟩
   case measure => simp [HL.out]; have := HM.out; omega

theorem bits8_at (c j : Nat) (hj : j < 8) : (bits8 c).getD j 0 = c / 2 ^ (7 - j) % 2 := rangeD _ _ _ hj
theorem bitsL_at : ∀ (b : List Nat) (i j : Nat), i < b.length → j < 8 → (bitsL b).getD (8 * i + j) 0 = b.getD i 0 / 2 ^ (7 - j) % 2
 | [], _, _, h, _ => by simp at h
 | c :: l, 0, j, _, hj => by
  rw [bitsL, List.flatMap_cons, List.getD_eq_getElem?_getD, List.getElem?_append_left (by rw [bits8_len]; omega), ← List.getD_eq_getElem?_getD, show 8 * 0 + j = j by omega, bits8_at c j hj]
  simp
 | c :: l, i + 1, j, h, hj => by
  rw [bitsL, List.flatMap_cons, List.getD_eq_getElem?_getD, List.getElem?_append_right (by rw [bits8_len]; omega), bits8_len, show 8 * (i + 1) + j - 8 = 8 * i + j by omega, ← List.getD_eq_getElem?_getD]; have := bitsL_at l i j (by simpa using h) hj; rw [bitsL] at this; rw [this]
  simp
theorem take8 (S : List Nat) (p : Nat) (h : p + 8 ≤ S.length) : (S.drop p).take 8 = [S.getD p 0, S.getD (p + 1) 0, S.getD (p + 2) 0, S.getD (p + 3) 0, S.getD (p + 4) 0, S.getD (p + 5) 0, S.getD (p + 6) 0, S.getD (p + 7) 0] := by
 apply List.ext_getElem
 ·
  simp; omega
 ·
  intro i h1 h2; rw [List.getElem_take, List.getElem_drop]; have hi : i < 8 := by simpa using h2
  rcases (by omega : i = 0 ∨ i = 1 ∨ i = 2 ∨ i = 3 ∨ i = 4 ∨ i = 5 ∨ i = 6 ∨ i = 7) with rfl | rfl | rfl | rfl | rfl | rfl | rfl | rfl <;> simp only [List.getElem_cons_zero, List.getElem_cons_succ] <;> rw [getD_of _ _ (by omega)] <;> rfl
def shlB (b : List Nat) : List Nat := (List.range b.length).map fun i => 2 * b.getD i 0 % 256 + b.getD (i + 1) 0 / 128
theorem shl_bits {b : List Nat} (hb : Byt b) : bytesR ((bitsL b).drop 1 ++ [0]) = shlB b := by
 have hl := bitsL_len b
 rcases Nat.eq_zero_or_pos b.length with h0 | h0
 ·
  obtain rfl := List.length_eq_zero_iff.1 h0
  rfl
 have hS : ((bitsL b).drop 1 ++ [0]).length = 8 * b.length := by rw [List.length_append, List.length_drop, hl]; simp; omega
 have hat : ∀ p, p < 8 * b.length → ((bitsL b).drop 1 ++ [0]).getD p 0 = (bitsL b).getD (p + 1) 0 := fun p hp => by
  rcases Nat.lt_or_ge (p + 1) (8 * b.length) with h1 | h1
  ·
   rw [List.getD_eq_getElem?_getD, List.getElem?_append_left (by rw [List.length_drop, hl]; omega), List.getElem?_drop, ← List.getD_eq_getElem?_getD, Nat.add_comm 1 p]
  ·
   have hR : (bitsL b).getD (p + 1) 0 = 0 := by
    rw [List.getD_eq_getElem?_getD, List.getElem?_eq_none (by rw [hl]; omega)]; rfl
   rw [hR, List.getD_eq_getElem?_getD, List.getElem?_append_right (by rw [List.length_drop, hl]; omega), List.length_drop, hl, show p - (8 * b.length - 1) = 0 by omega]
   rfl
 have hat7 : ∀ i, i < b.length → (bitsL b).getD (8 * i + 7 + 1) 0 = b.getD (i + 1) 0 / 128 % 2 := fun i hi => by
  rcases Nat.lt_or_ge (i + 1) b.length with h1 | h1
  ·
   rw [show 8 * i + 7 + 1 = 8 * (i + 1) + 0 by omega, bitsL_at b (i + 1) 0 h1 (by omega)]
  ·
   rw [List.getD_eq_getElem?_getD, List.getElem?_eq_none (by rw [hl]; omega), List.getD_eq_getElem?_getD, List.getElem?_eq_none (by omega)]
   rfl
 unfold bytesR shlB
 rw [hS, show 8 * b.length / 8 = b.length by omega]
 apply List.map_congr_left
 intro i hi; have hi := List.mem_range.1 hi; rw [take8 _ _ (by rw [hS]; omega), hat (8 * i) (by omega), hat (8 * i + 1) (by omega), hat (8 * i + 2) (by omega), hat (8 * i + 3) (by omega), hat (8 * i + 4) (by omega), hat (8 * i + 5) (by omega), hat (8 * i + 6) (by omega), hat (8 * i + 7) (by omega), hat7 i hi]; rw [bitsL_at b i 1 hi (by omega), show 8 * i + 1 + 1 = 8 * i + 2 from rfl, bitsL_at b i 2 hi (by omega), show 8 * i + 2 + 1 = 8 * i + 3 from rfl, bitsL_at b i 3 hi (by omega), show 8 * i + 3 + 1 = 8 * i + 4 from rfl, bitsL_at b i 4 hi (by omega), show 8 * i + 4 + 1 = 8 * i + 5 from rfl, bitsL_at b i 5 hi (by omega), show 8 * i + 5 + 1 = 8 * i + 6 from rfl, bitsL_at b i 6 hi (by omega), show 8 * i + 6 + 1 = 8 * i + 7 from rfl, bitsL_at b i 7 hi (by omega)]; have h1 := hb.at_ i; have h2 := hb.at_ (i + 1); generalize b.getD i 0 = x at *; generalize b.getD (i + 1) 0 = c at *; simp only [List.foldl_cons, List.foldl_nil]
 show 2 * (2 * (2 * (2 * (2 * (2 * (2 * (2 * 0 + x / 64 % 2) + x / 32 % 2) + x / 16 % 2) + x / 8 % 2) + x / 4 % 2) + x / 2 % 2) + x / 1 % 2) + c / 128 % 2 = 2 * x % 256 + c / 128
 omega
theorem dbl_top {b : List Nat} (h : 128 ≤ b.getD 0 0) : dblN b = (shlB b).set (b.length - 1) ((shlB b).getD (b.length - 1) 0 ^^^ (if b.length = 8 then 27 else 135)) := by
 show (if 128 ≤ b.getD 0 0 then _ else _) = _
 rw [if_pos h]; rfl
theorem dbl_low {b : List Nat} (h : ¬ 128 ≤ b.getD 0 0) : dblN b = shlB b := by
 show (if 128 ≤ b.getD 0 0 then _ else _) = _
 rw [if_neg h]; rfl
theorem shlB_len (b : List Nat) : (shlB b).length = b.length := by simp [shlB]
theorem shlB_lt {b : List Nat} (hb : Byt b) (i : Nat) : (shlB b).getD i 0 < 256 := by
 rcases Nat.lt_or_ge i b.length with h | h
 ·
  unfold shlB
  rw [rangeD _ _ _ h]; have := hb.at_ i; have := hb.at_ (i + 1); omega
 ·
  rw [List.getD_eq_getElem?_getD, List.getElem?_eq_none (by rw [shlB_len]; exact h)]
  decide

theorem refDbl8t (b : List Nat) (hb : b.length = 8) (gb : Byt b) (ht : 128 ≤ b.getD 0 0) (A : Option Addr) (cp : Nat) (w : World) (hA : At w A b) :
    Calls Tryz.prog 77 #[.slice A 8 cp] w fun e w' => (∃ v, e = .returned v ∧ Own w' w.heap.size v (dblN b)) ∧ Below w.heap.size w w' := by
 have hd : dblN b = (shlB b).set 7 ((shlB b).getD 7 0 ^^^ 27) := by rw [dbl_top ht, hb]; rfl
 have HBI := Hh (fun W hA => bits_any b gb (by omega) A cp W hA); have hbl := bitsL_len b; have hblt := bitsL_lt b; have hb0 := bitsL_at b 0 0 (by omega) (by omega); have hsh := shl_bits gb; have hsl := shlB_len b; have hsx := shlB_lt gb 7; rw [hb] at HBI hbl hsl
 have hb1 : (bitsL b).getD 0 0 = 1 := by
  have := gb.at_ 0; rw [show 8 * 0 + 0 = 0 from rfl] at hb0; rw [hb0, show 2 ^ (7 - 0) = 128 from rfl]; omega
 clear hb0; have hSl : ((bitsL b).drop 1 ++ [0]).length = 64 := by rw [List.length_append, List.length_drop, hbl]; rfl
 have hSb : ∀ c ∈ (bitsL b).drop 1 ++ [0], c < 2 := fun c hc => by
  rcases List.mem_append.1 hc with h | h
  ·
   exact hblt c (List.mem_of_mem_drop h)
  ·
   obtain rfl := List.mem_singleton.1 h; omega
 have HBY := Hh (fun A' c' W hA => bytes3_any ((bitsL b).drop 1 ++ [0]) hSb 8 (by rw [hSl]) (by omega) A' c' W hA); rw [hsh, hSl] at HBY; have hdl : ((bitsL b).drop 1).length = 63 := by rw [List.length_drop, hbl]
 have hsub : ∀ (W : World) (g : Nat), Ns .i64 W g 0 (bitsL b) → Ns .i64 W g 1 ((bitsL b).drop 1) := fun W g h => by
  have := h.sub 1 63; rw [Nat.zero_add, List.take_of_length_le (by rw [hdl]; decide)] at this; exact this
 have hbc : ∀ (W : World) (g : Nat), Ns .i64 W g 0 (bitsL b) → W.cell? ⟨g, 0, none⟩ = some (.int .i64 1) := fun W g h => by
  have := h.cell 0 (by rw [hbl]; decide); rw [Nat.zero_add, ← getD_of _ _ (by rw [hbl]; decide), hb1] at this; exact this
 generalize (bitsL b).drop 1 = L1 at *; generalize bitsL b = L at *; generalize dblN b = DB at *; generalize shlB b = SH at *; have HD := Hh hd; clear hd; have HBL := Hh hbl; clear hbl; have HSL := Hh hSl; clear hSl; have HDL := Hh hdl; clear hdl; have HSUB := Hh hsub; clear hsub; have HBC := Hh hbc; clear hbc; have HSHL := Hh hsl; clear hsl; clear hb gb ht hblt hsh hb1 hSb
 go_enter Tryz.func77, Tryz.ntmps77
 go_wp2_with fail
 refine (HBI.out _ hA).mono ?_; rintro e w1 ⟨⟨v, rfl, hv⟩, hb1⟩; obtain ⟨g, cap, rfl, hgw, hcap, hg, hN⟩ := hv.at_ (by intro h; have := HBL.out; rw [h] at this; cases this); rw [HBL.out] at hcap ⊢; have hci : (1 : Int) ≤ (cap : Int) := by omega
 have hci2 : (64 : Int) ≤ (cap : Int) := by omega
 have hci3 : ¬ cap = 1 := by omega
 have hN1 := HSUB.out _ _ hN; have hc0 := HBC.out _ _ hN; have HN := Hh hN; clear hN hv HBI; have HN1 := Hh hN1; clear hN1; have hs1 := hb1.size; have hb2 : Below w1.heap.size w1 (w1.alloc (.cells #[] 3)) := (Below.refl _ _).alloc lr _; have ho2 : OwnN 3 .i64 (w1.alloc (.cells #[] 3)) w1.heap.size (.slice (some ⟨w1.heap.size, 0, none⟩) 0 0) [] := OwnN.start 3 .i64 w1 w1.heap.size lr; have HB2 := Hh hb2; clear hb2; have HO2 := Hh ho2; clear ho2
 go_wp2_with (first
  | (at_builtin; refine wpList_append_nums rfl (.tmp 7) (.tmp 9) 28 rfl .i64 3 8 Tryz.underlying28 info_int w1.heap.size w1 _ [] rfl HO2.out HB2.out (by simp) _ 63 _ L1 rfl HDL.out ⟨_, _, rfl, HN1.out.below HB2.out hg⟩ (by simp) (by omega) ?_; intro v3 w3 hown3 hbel3 hsz3; rw [List.nil_append] at hown3)
  | (at_builtin; refine wpList_append_nums rfl (.tmp 10) (.tmp 11) 28 rfl .i64 3 8 Tryz.underlying28 info_int w1.heap.size w1 _ L1 rfl (OwnN.below hown3 ((Below.refl _ _).alloc lr _) lr) (hbel3.alloc hbel3.size _) (by have := hbel3.size; simp; omega) _ 1 1 [0] rfl rfl ⟨_, _, rfl, Ns.new .i64 w3 3 0⟩ (by rw [HDL.out]; decide) (by omega) ?_; intro v4 w4 hown4 hbel4 hsz4))
 obtain ⟨A4, c4, rfl, -, hN4⟩ := hown4.form; rw [HSL.out]; refine (HBY.out _ _ _ hN4).mono ?_; rintro e w5 ⟨⟨v, rfl, hv⟩, hb5⟩; obtain ⟨g5, cap5, rfl, hg5, hcap5, hgl5, hB5⟩ := hv.form (by intro h; have := HSHL.out; rw [h] at this; cases this); rw [HSHL.out] at hcap5 ⊢; have hbel5 : Below w1.heap.size w1 w5 := hbel4.trans (hb5.mono hbel4.size); have hcz : w5.cell? ⟨g, 0, none⟩ = some (.int .i64 1) := (hbel5.cell (p := ⟨g, 0, none⟩) hg).trans hc0; have hbw : Below w.heap.size w w5 := hb1.trans (hbel5.mono hs1)
 have hv5 : Own w5 w.heap.size (.slice (some ⟨g5, 0, none⟩) 8 cap5) SH := by
  have := hv.more (C := w.heap.size) (by have := hbel4.size; omega); rw [HSHL.out] at this; exact this
 have hne : g5 ≠ g := by have := hbel4.size; omega
 clear hv hN4 hown4 hb5 hown3
 have h5c : w5.cell? ⟨g5, 7, none⟩ = some (.int .u8 (SH.getD 7 0 : Nat)) := by
  have := hB5.cellD 7 (by rw [HSHL.out]; decide); rw [Nat.zero_add] at this; exact this
 have hfr : w5.frozen? ⟨g5, 7, none⟩ = false := hv5.frz HSHL.out 7; have hxx := u8_xor_nat (SH.getD 7 0) 27 hsx (by omega); have hset := hv5.set 7 (SH.getD 7 0 ^^^ 27)
 have hcz2 : (w5.setCell ⟨g5, 7, none⟩ (.int .u8 ((SH.getD 7 0 ^^^ 27 : Nat) : Int))).cell? ⟨g, 0, none⟩ = some (.int .i64 1) := by
  have := ((Keep.refl g5 w5).setCell 7 (.int .u8 ((SH.getD 7 0 ^^^ 27 : Nat) : Int))).block g (by have := hbel5.size; omega) (fun e => hne e.symm); exact (World.cell?_of_block (a := ⟨g, 0, none⟩) this).trans hcz
 have hbel6 : Below w.heap.size w (w5.setCell ⟨g5, 7, none⟩ (.int .u8 ((SH.getD 7 0 ^^^ 27 : Nat) : Int))) := ((Keep.refl g5 w5).setCell 7 _).below hbw hbw.size (by have := hbel4.size; omega); have hDB := HD.out; rw [← hDB] at hset; rw [show ((27 : Nat) : Int) = 27 from rfl] at hxx; rw [← hxx] at hset hcz2 hbel6; generalize SH.getD 7 0 = x1 at *; have HSET := Hh hset; clear hset; have HB6 := Hh hbel6; clear hbel6 hDB hxx HD hv5 hbw hB5; go_wp2
 go_ret
 exact ⟨⟨_, rfl, HSET.out⟩, HB6.out⟩

theorem refDbl8l (b : List Nat) (hb : b.length = 8) (gb : Byt b) (ht : ¬ 128 ≤ b.getD 0 0) (A : Option Addr) (cp : Nat) (w : World) (hA : At w A b) :
    Calls Tryz.prog 77 #[.slice A 8 cp] w fun e w' => (∃ v, e = .returned v ∧ Own w' w.heap.size v (dblN b)) ∧ Below w.heap.size w w' := by
 have hd := dbl_low ht; have HBI := Hh (fun W hA => bits_any b gb (by omega) A cp W hA); have hbl := bitsL_len b; have hblt := bitsL_lt b; have hb0 := bitsL_at b 0 0 (by omega) (by omega); have hsh := shl_bits gb; have hsl := shlB_len b; have hsx := shlB_lt gb 7; rw [hb] at HBI hbl hsl
 have hb1 : (bitsL b).getD 0 0 = 0 := by
  have := gb.at_ 0; rw [show 8 * 0 + 0 = 0 from rfl] at hb0; rw [hb0, show 2 ^ (7 - 0) = 128 from rfl]; omega
 clear hb0; have hSl : ((bitsL b).drop 1 ++ [0]).length = 64 := by rw [List.length_append, List.length_drop, hbl]; rfl
 have hSb : ∀ c ∈ (bitsL b).drop 1 ++ [0], c < 2 := fun c hc => by
  rcases List.mem_append.1 hc with h | h
  ·
   exact hblt c (List.mem_of_mem_drop h)
  ·
   obtain rfl := List.mem_singleton.1 h; omega
 have HBY := Hh (fun A' c' W hA => bytes3_any ((bitsL b).drop 1 ++ [0]) hSb 8 (by rw [hSl]) (by omega) A' c' W hA); rw [hsh, hSl] at HBY; have hdl : ((bitsL b).drop 1).length = 63 := by rw [List.length_drop, hbl]
 have hsub : ∀ (W : World) (g : Nat), Ns .i64 W g 0 (bitsL b) → Ns .i64 W g 1 ((bitsL b).drop 1) := fun W g h => by
  have := h.sub 1 63; rw [Nat.zero_add, List.take_of_length_le (by rw [hdl]; decide)] at this; exact this
 have hbc : ∀ (W : World) (g : Nat), Ns .i64 W g 0 (bitsL b) → W.cell? ⟨g, 0, none⟩ = some (.int .i64 0) := fun W g h => by
  have := h.cell 0 (by rw [hbl]; decide); rw [Nat.zero_add, ← getD_of _ _ (by rw [hbl]; decide), hb1] at this; exact this
 generalize (bitsL b).drop 1 = L1 at *; generalize bitsL b = L at *; generalize dblN b = DB at *; generalize shlB b = SH at *; have HD := Hh hd; clear hd; have HBL := Hh hbl; clear hbl; have HSL := Hh hSl; clear hSl; have HDL := Hh hdl; clear hdl; have HSUB := Hh hsub; clear hsub; have HBC := Hh hbc; clear hbc; have HSHL := Hh hsl; clear hsl; clear hb gb ht hblt hsh hb1 hSb
 go_enter Tryz.func77, Tryz.ntmps77
 go_wp2_with fail
 refine (HBI.out _ hA).mono ?_; rintro e w1 ⟨⟨v, rfl, hv⟩, hb1⟩; obtain ⟨g, cap, rfl, hgw, hcap, hg, hN⟩ := hv.at_ (by intro h; have := HBL.out; rw [h] at this; cases this); rw [HBL.out] at hcap ⊢; have hci : (1 : Int) ≤ (cap : Int) := by omega
 have hci2 : (64 : Int) ≤ (cap : Int) := by omega
 have hci3 : ¬ cap = 1 := by omega
 have hN1 := HSUB.out _ _ hN; have hc0 := HBC.out _ _ hN; have HN := Hh hN; clear hN hv HBI; have HN1 := Hh hN1; clear hN1; have hs1 := hb1.size; have hb2 : Below w1.heap.size w1 (w1.alloc (.cells #[] 3)) := (Below.refl _ _).alloc lr _; have ho2 : OwnN 3 .i64 (w1.alloc (.cells #[] 3)) w1.heap.size (.slice (some ⟨w1.heap.size, 0, none⟩) 0 0) [] := OwnN.start 3 .i64 w1 w1.heap.size lr; have HB2 := Hh hb2; clear hb2; have HO2 := Hh ho2; clear ho2
 go_wp2_with (first
  | (at_builtin; refine wpList_append_nums rfl (.tmp 7) (.tmp 9) 28 rfl .i64 3 8 Tryz.underlying28 info_int w1.heap.size w1 _ [] rfl HO2.out HB2.out (by simp) _ 63 _ L1 rfl HDL.out ⟨_, _, rfl, HN1.out.below HB2.out hg⟩ (by simp) (by omega) ?_; intro v3 w3 hown3 hbel3 hsz3; rw [List.nil_append] at hown3)
  | (at_builtin; refine wpList_append_nums rfl (.tmp 10) (.tmp 11) 28 rfl .i64 3 8 Tryz.underlying28 info_int w1.heap.size w1 _ L1 rfl (OwnN.below hown3 ((Below.refl _ _).alloc lr _) lr) (hbel3.alloc hbel3.size _) (by have := hbel3.size; simp; omega) _ 1 1 [0] rfl rfl ⟨_, _, rfl, Ns.new .i64 w3 3 0⟩ (by rw [HDL.out]; decide) (by omega) ?_; intro v4 w4 hown4 hbel4 hsz4))
 obtain ⟨A4, c4, rfl, -, hN4⟩ := hown4.form; rw [HSL.out]; refine (HBY.out _ _ _ hN4).mono ?_; rintro e w5 ⟨⟨v, rfl, hv⟩, hb5⟩; obtain ⟨g5, cap5, rfl, hg5, hcap5, hgl5, hB5⟩ := hv.form (by intro h; have := HSHL.out; rw [h] at this; cases this); rw [HSHL.out] at hcap5 ⊢; have hbel5 : Below w1.heap.size w1 w5 := hbel4.trans (hb5.mono hbel4.size); have hcz : w5.cell? ⟨g, 0, none⟩ = some (.int .i64 0) := (hbel5.cell (p := ⟨g, 0, none⟩) hg).trans hc0; have hbw : Below w.heap.size w w5 := hb1.trans (hbel5.mono hs1)
 have hv5 : Own w5 w.heap.size (.slice (some ⟨g5, 0, none⟩) 8 cap5) SH := by
  have := hv.more (C := w.heap.size) (by have := hbel4.size; omega); rw [HSHL.out] at this; exact this
 have hne : g5 ≠ g := by have := hbel4.size; omega
 clear hv hN4 hown4 hb5 hown3; have hDB := HD.out; rw [← hDB] at hv5; have HV5 := Hh hv5; clear hv5 hDB HD hB5; have HBW := Hh hbw; clear hbw; go_wp2
 go_ret
 exact ⟨⟨_, rfl, HV5.out⟩, HBW.out⟩

theorem refDbl16t (b : List Nat) (hb : b.length = 16) (gb : Byt b) (ht : 128 ≤ b.getD 0 0) (A : Option Addr) (cp : Nat) (w : World) (hA : At w A b) :
    Calls Tryz.prog 77 #[.slice A 16 cp] w fun e w' => (∃ v, e = .returned v ∧ Own w' w.heap.size v (dblN b)) ∧ Below w.heap.size w w' := by
 have hd : dblN b = (shlB b).set 15 ((shlB b).getD 15 0 ^^^ 135) := by rw [dbl_top ht, hb]; rfl
 have HBI := Hh (fun W hA => bits_any b gb (by omega) A cp W hA); have hbl := bitsL_len b; have hblt := bitsL_lt b; have hb0 := bitsL_at b 0 0 (by omega) (by omega); have hsh := shl_bits gb; have hsl := shlB_len b; have hsx := shlB_lt gb 15; rw [hb] at HBI hbl hsl
 have hb1 : (bitsL b).getD 0 0 = 1 := by
  have := gb.at_ 0; rw [show 8 * 0 + 0 = 0 from rfl] at hb0; rw [hb0, show 2 ^ (7 - 0) = 128 from rfl]; omega
 clear hb0; have hSl : ((bitsL b).drop 1 ++ [0]).length = 128 := by rw [List.length_append, List.length_drop, hbl]; rfl
 have hSb : ∀ c ∈ (bitsL b).drop 1 ++ [0], c < 2 := fun c hc => by
  rcases List.mem_append.1 hc with h | h
  ·
   exact hblt c (List.mem_of_mem_drop h)
  ·
   obtain rfl := List.mem_singleton.1 h; omega
 have HBY := Hh (fun A' c' W hA => bytes3_any ((bitsL b).drop 1 ++ [0]) hSb 16 (by rw [hSl]) (by omega) A' c' W hA); rw [hsh, hSl] at HBY; have hdl : ((bitsL b).drop 1).length = 127 := by rw [List.length_drop, hbl]
 have hsub : ∀ (W : World) (g : Nat), Ns .i64 W g 0 (bitsL b) → Ns .i64 W g 1 ((bitsL b).drop 1) := fun W g h => by
  have := h.sub 1 127; rw [Nat.zero_add, List.take_of_length_le (by rw [hdl]; decide)] at this; exact this
 have hbc : ∀ (W : World) (g : Nat), Ns .i64 W g 0 (bitsL b) → W.cell? ⟨g, 0, none⟩ = some (.int .i64 1) := fun W g h => by
  have := h.cell 0 (by rw [hbl]; decide); rw [Nat.zero_add, ← getD_of _ _ (by rw [hbl]; decide), hb1] at this; exact this
 generalize (bitsL b).drop 1 = L1 at *; generalize bitsL b = L at *; generalize dblN b = DB at *; generalize shlB b = SH at *; have HD := Hh hd; clear hd; have HBL := Hh hbl; clear hbl; have HSL := Hh hSl; clear hSl; have HDL := Hh hdl; clear hdl; have HSUB := Hh hsub; clear hsub; have HBC := Hh hbc; clear hbc; have HSHL := Hh hsl; clear hsl; clear hb gb ht hblt hsh hb1 hSb
 go_enter Tryz.func77, Tryz.ntmps77
 go_wp2_with fail
 refine (HBI.out _ hA).mono ?_; rintro e w1 ⟨⟨v, rfl, hv⟩, hb1⟩; obtain ⟨g, cap, rfl, hgw, hcap, hg, hN⟩ := hv.at_ (by intro h; have := HBL.out; rw [h] at this; cases this); rw [HBL.out] at hcap ⊢; have hci : (1 : Int) ≤ (cap : Int) := by omega
 have hci2 : (128 : Int) ≤ (cap : Int) := by omega
 have hci3 : ¬ cap = 1 := by omega
 have hN1 := HSUB.out _ _ hN; have hc0 := HBC.out _ _ hN; have HN := Hh hN; clear hN hv HBI; have HN1 := Hh hN1; clear hN1; have hs1 := hb1.size; have hb2 : Below w1.heap.size w1 (w1.alloc (.cells #[] 3)) := (Below.refl _ _).alloc lr _; have ho2 : OwnN 3 .i64 (w1.alloc (.cells #[] 3)) w1.heap.size (.slice (some ⟨w1.heap.size, 0, none⟩) 0 0) [] := OwnN.start 3 .i64 w1 w1.heap.size lr; have HB2 := Hh hb2; clear hb2; have HO2 := Hh ho2; clear ho2
 go_wp2_with (first
  | (at_builtin; refine wpList_append_nums rfl (.tmp 7) (.tmp 9) 28 rfl .i64 3 8 Tryz.underlying28 info_int w1.heap.size w1 _ [] rfl HO2.out HB2.out (by simp) _ 127 _ L1 rfl HDL.out ⟨_, _, rfl, HN1.out.below HB2.out hg⟩ (by simp) (by omega) ?_; intro v3 w3 hown3 hbel3 hsz3; rw [List.nil_append] at hown3)
  | (at_builtin; refine wpList_append_nums rfl (.tmp 10) (.tmp 11) 28 rfl .i64 3 8 Tryz.underlying28 info_int w1.heap.size w1 _ L1 rfl (OwnN.below hown3 ((Below.refl _ _).alloc lr _) lr) (hbel3.alloc hbel3.size _) (by have := hbel3.size; simp; omega) _ 1 1 [0] rfl rfl ⟨_, _, rfl, Ns.new .i64 w3 3 0⟩ (by rw [HDL.out]; decide) (by omega) ?_; intro v4 w4 hown4 hbel4 hsz4))
 obtain ⟨A4, c4, rfl, -, hN4⟩ := hown4.form; rw [HSL.out]; refine (HBY.out _ _ _ hN4).mono ?_; rintro e w5 ⟨⟨v, rfl, hv⟩, hb5⟩; obtain ⟨g5, cap5, rfl, hg5, hcap5, hgl5, hB5⟩ := hv.form (by intro h; have := HSHL.out; rw [h] at this; cases this); rw [HSHL.out] at hcap5 ⊢; have hbel5 : Below w1.heap.size w1 w5 := hbel4.trans (hb5.mono hbel4.size); have hcz : w5.cell? ⟨g, 0, none⟩ = some (.int .i64 1) := (hbel5.cell (p := ⟨g, 0, none⟩) hg).trans hc0; have hbw : Below w.heap.size w w5 := hb1.trans (hbel5.mono hs1)
 have hv5 : Own w5 w.heap.size (.slice (some ⟨g5, 0, none⟩) 16 cap5) SH := by
  have := hv.more (C := w.heap.size) (by have := hbel4.size; omega); rw [HSHL.out] at this; exact this
 have hne : g5 ≠ g := by have := hbel4.size; omega
 clear hv hN4 hown4 hb5 hown3
 have h5c : w5.cell? ⟨g5, 15, none⟩ = some (.int .u8 (SH.getD 15 0 : Nat)) := by
  have := hB5.cellD 15 (by rw [HSHL.out]; decide); rw [Nat.zero_add] at this; exact this
 have hfr : w5.frozen? ⟨g5, 15, none⟩ = false := hv5.frz HSHL.out 15; have hxx := u8_xor_nat (SH.getD 15 0) 135 hsx (by omega); have hset := hv5.set 15 (SH.getD 15 0 ^^^ 135)
 have hcz2 : (w5.setCell ⟨g5, 15, none⟩ (.int .u8 ((SH.getD 15 0 ^^^ 135 : Nat) : Int))).cell? ⟨g, 0, none⟩ = some (.int .i64 1) := by
  have := ((Keep.refl g5 w5).setCell 15 (.int .u8 ((SH.getD 15 0 ^^^ 135 : Nat) : Int))).block g (by have := hbel5.size; omega) (fun e => hne e.symm); exact (World.cell?_of_block (a := ⟨g, 0, none⟩) this).trans hcz
 have hbel6 : Below w.heap.size w (w5.setCell ⟨g5, 15, none⟩ (.int .u8 ((SH.getD 15 0 ^^^ 135 : Nat) : Int))) := ((Keep.refl g5 w5).setCell 15 _).below hbw hbw.size (by have := hbel4.size; omega); have hDB := HD.out; rw [← hDB] at hset; rw [show ((135 : Nat) : Int) = 135 from rfl] at hxx; rw [← hxx] at hset hcz2 hbel6; generalize SH.getD 15 0 = x1 at *; have HSET := Hh hset; clear hset; have HB6 := Hh hbel6; clear hbel6 hDB hxx HD hv5 hbw hB5; go_wp2
 go_ret
 exact ⟨⟨_, rfl, HSET.out⟩, HB6.out⟩

theorem refDbl16l (b : List Nat) (hb : b.length = 16) (gb : Byt b) (ht : ¬ 128 ≤ b.getD 0 0) (A : Option Addr) (cp : Nat) (w : World) (hA : At w A b) :
    Calls Tryz.prog 77 #[.slice A 16 cp] w fun e w' => (∃ v, e = .returned v ∧ Own w' w.heap.size v (dblN b)) ∧ Below w.heap.size w w' := by
 have hd := dbl_low ht; have HBI := Hh (fun W hA => bits_any b gb (by omega) A cp W hA); have hbl := bitsL_len b; have hblt := bitsL_lt b; have hb0 := bitsL_at b 0 0 (by omega) (by omega); have hsh := shl_bits gb; have hsl := shlB_len b; have hsx := shlB_lt gb 15; rw [hb] at HBI hbl hsl
 have hb1 : (bitsL b).getD 0 0 = 0 := by
  have := gb.at_ 0; rw [show 8 * 0 + 0 = 0 from rfl] at hb0; rw [hb0, show 2 ^ (7 - 0) = 128 from rfl]; omega
 clear hb0; have hSl : ((bitsL b).drop 1 ++ [0]).length = 128 := by rw [List.length_append, List.length_drop, hbl]; rfl
 have hSb : ∀ c ∈ (bitsL b).drop 1 ++ [0], c < 2 := fun c hc => by
  rcases List.mem_append.1 hc with h | h
  ·
   exact hblt c (List.mem_of_mem_drop h)
  ·
   obtain rfl := List.mem_singleton.1 h; omega
 have HBY := Hh (fun A' c' W hA => bytes3_any ((bitsL b).drop 1 ++ [0]) hSb 16 (by rw [hSl]) (by omega) A' c' W hA); rw [hsh, hSl] at HBY; have hdl : ((bitsL b).drop 1).length = 127 := by rw [List.length_drop, hbl]
 have hsub : ∀ (W : World) (g : Nat), Ns .i64 W g 0 (bitsL b) → Ns .i64 W g 1 ((bitsL b).drop 1) := fun W g h => by
  have := h.sub 1 127; rw [Nat.zero_add, List.take_of_length_le (by rw [hdl]; decide)] at this; exact this
 have hbc : ∀ (W : World) (g : Nat), Ns .i64 W g 0 (bitsL b) → W.cell? ⟨g, 0, none⟩ = some (.int .i64 0) := fun W g h => by
  have := h.cell 0 (by rw [hbl]; decide); rw [Nat.zero_add, ← getD_of _ _ (by rw [hbl]; decide), hb1] at this; exact this
 generalize (bitsL b).drop 1 = L1 at *; generalize bitsL b = L at *; generalize dblN b = DB at *; generalize shlB b = SH at *; have HD := Hh hd; clear hd; have HBL := Hh hbl; clear hbl; have HSL := Hh hSl; clear hSl; have HDL := Hh hdl; clear hdl; have HSUB := Hh hsub; clear hsub; have HBC := Hh hbc; clear hbc; have HSHL := Hh hsl; clear hsl; clear hb gb ht hblt hsh hb1 hSb
 go_enter Tryz.func77, Tryz.ntmps77
 go_wp2_with fail
 refine (HBI.out _ hA).mono ?_; rintro e w1 ⟨⟨v, rfl, hv⟩, hb1⟩; obtain ⟨g, cap, rfl, hgw, hcap, hg, hN⟩ := hv.at_ (by intro h; have := HBL.out; rw [h] at this; cases this); rw [HBL.out] at hcap ⊢; have hci : (1 : Int) ≤ (cap : Int) := by omega
 have hci2 : (128 : Int) ≤ (cap : Int) := by omega
 have hci3 : ¬ cap = 1 := by omega
 have hN1 := HSUB.out _ _ hN; have hc0 := HBC.out _ _ hN; have HN := Hh hN; clear hN hv HBI; have HN1 := Hh hN1; clear hN1; have hs1 := hb1.size; have hb2 : Below w1.heap.size w1 (w1.alloc (.cells #[] 3)) := (Below.refl _ _).alloc lr _; have ho2 : OwnN 3 .i64 (w1.alloc (.cells #[] 3)) w1.heap.size (.slice (some ⟨w1.heap.size, 0, none⟩) 0 0) [] := OwnN.start 3 .i64 w1 w1.heap.size lr; have HB2 := Hh hb2; clear hb2; have HO2 := Hh ho2; clear ho2
 go_wp2_with (first
  | (at_builtin; refine wpList_append_nums rfl (.tmp 7) (.tmp 9) 28 rfl .i64 3 8 Tryz.underlying28 info_int w1.heap.size w1 _ [] rfl HO2.out HB2.out (by simp) _ 127 _ L1 rfl HDL.out ⟨_, _, rfl, HN1.out.below HB2.out hg⟩ (by simp) (by omega) ?_; intro v3 w3 hown3 hbel3 hsz3; rw [List.nil_append] at hown3)
  | (at_builtin; refine wpList_append_nums rfl (.tmp 10) (.tmp 11) 28 rfl .i64 3 8 Tryz.underlying28 info_int w1.heap.size w1 _ L1 rfl (OwnN.below hown3 ((Below.refl _ _).alloc lr _) lr) (hbel3.alloc hbel3.size _) (by have := hbel3.size; simp; omega) _ 1 1 [0] rfl rfl ⟨_, _, rfl, Ns.new .i64 w3 3 0⟩ (by rw [HDL.out]; decide) (by omega) ?_; intro v4 w4 hown4 hbel4 hsz4))
 obtain ⟨A4, c4, rfl, -, hN4⟩ := hown4.form; rw [HSL.out]; refine (HBY.out _ _ _ hN4).mono ?_; rintro e w5 ⟨⟨v, rfl, hv⟩, hb5⟩; obtain ⟨g5, cap5, rfl, hg5, hcap5, hgl5, hB5⟩ := hv.form (by intro h; have := HSHL.out; rw [h] at this; cases this); rw [HSHL.out] at hcap5 ⊢; have hbel5 : Below w1.heap.size w1 w5 := hbel4.trans (hb5.mono hbel4.size); have hcz : w5.cell? ⟨g, 0, none⟩ = some (.int .i64 0) := (hbel5.cell (p := ⟨g, 0, none⟩) hg).trans hc0; have hbw : Below w.heap.size w w5 := hb1.trans (hbel5.mono hs1)
 have hv5 : Own w5 w.heap.size (.slice (some ⟨g5, 0, none⟩) 16 cap5) SH := by
  have := hv.more (C := w.heap.size) (by have := hbel4.size; omega); rw [HSHL.out] at this; exact this
 have hne : g5 ≠ g := by have := hbel4.size; omega
 clear hv hN4 hown4 hb5 hown3; have hDB := HD.out; rw [← hDB] at hv5; have HV5 := Hh hv5; clear hv5 hDB HD hB5; have HBW := Hh hbw; clear hbw; go_wp2
 go_ret
 exact ⟨⟨_, rfl, HV5.out⟩, HBW.out⟩

theorem refDbl_any (b : List Nat) (n : Nat) (hn : n = 8 ∨ n = 16) (hb : b.length = n) (gb : Byt b) (A : Option Addr) (cp : Nat) (w : World) (hA : At w A b) :
    Calls Tryz.prog 77 #[.slice A n cp] w fun e w' => (∃ v, e = .returned v ∧ Own w' w.heap.size v (dblN b)) ∧ Below w.heap.size w w' := by
 rcases hn with rfl | rfl <;> by_cases ht : 128 ≤ b.getD 0 0
 ·
  exact refDbl8t b hb gb ht A cp w hA
 ·
  exact refDbl8l b hb gb ht A cp w hA
 ·
  exact refDbl16t b hb gb ht A cp w hA
 ·
  exact refDbl16l b hb gb ht A cp w hA
end Go.Proofs.YtfkjkkjimdilcaaGreatDoor
