/- The contracts of lockboxref06.Size, Xor; of lockboxref07.Pad, double. The contract of lockboxref07.double. The contract of lockboxref06.Do, enciphering. -/
import Derived.Test.YthodpjcdmdbnoaaGreatDoorNRD
import Derived.Test.YthodpjcdmdbnoaaGreatDoorNMH
import Derived.Test.YthodpjcdmdbnoaaGreatDoorNPB
/- The contracts of lockboxref06.Size, Xor; of lockboxref07.Pad, double. -/
namespace Go.Proofs.YthodpjcdmdbnoaaGreatDoor
open Go Go.RowKit Pr

set_option maxHeartbeats 4000000 in
set_option maxRecDepth 100000 in
theorem refXor_any (x y : List Nat) (n : Nat) (hx : x.length = n) (hy : y.length = n) (hn : 0 < n) (hn2 : n ≤ 1000) (gx : Byt x) (gy : Byt y) (A B : Option Addr) (ca cb : Nat) (w : World) (hA : At w A x) (hB : At w B y) :
    Calls Tryz.prog 39 #[.slice A n ca, .slice B n cb] w fun e w' => (∃ v, e = .returned v ∧ Own w' w.heap.size v (xorTo x y n)) ∧ Below w.heap.size w w' := by
 have hst := fun k hk => xorTo_take x y n hx hy k hk
 have hfin : (xorTo x y n).take n = xorTo x y n := List.take_of_length_le (by rw [xorTo_len, hx]; exact Nat.le_refl _)
 have hln : (xorTo x y n).length = n := by rw [xorTo_len, hx]
 generalize xorTo x y n = X at *
 have HST := Lib.hid hst; clear hst
 have HFIN := Lib.hid hfin; clear hfin
 have HLN := Lib.hid hln; clear hln
 obtain ⟨b1, o1, rfl, hN1⟩ := hA (ne_nil hx (by omega))
 obtain ⟨b2, o2, rfl, hN2⟩ := hB (ne_nil hy (by omega))
 have hl1 := hN1.lt (ne_nil hx (by omega))
 have hl2 := hN2.lt (ne_nil hy (by omega))
 have HX := Lib.hid hx; clear hx
 have HY := Lib.hid hy; clear hy
 have HN1 := Lib.hid hN1; clear hN1
 have HN2 := Lib.hid hN2; clear hN2
 clear hA hB
 go_enter Tryz.func39, Tryz.ntmps39
 go_wp2
 go_loopw [5, 6] (fun v i wr => ∃ k : Nat, k ≤ n ∧ i = .int .i64 k ∧ OwnN 5 .u8 wr w.heap.size v (X.take k) ∧ Below w.heap.size w wr) (fun _ i _ => n - (intOf i).toNat)
 case atStart => exact ⟨0, by omega, rfl, OwnN.nil _ _ _ _, Below.refl _ _⟩
 case round =>
  obtain ⟨k, hk, rfl, hown, hbel⟩ := hrel
  by_cases hlt : k < n
  ·
   have hsz := hbel.size
   have hst := HST.out k hlt
   have hll : (X.take k).length ≤ 1000 := by rw [List.length_take]; omega
   have c1 := fun W (hW : Below w.heap.size w W) => (HN1.out.below hW hl1).cellD k (by rw [HX.out]; exact hlt)
   have c2 := fun W (hW : Below w.heap.size w W) => (HN2.out.below hW hl2).cellD k (by rw [HY.out]; exact hlt)
   have hxx := u8_xor_nat _ _ (gx.at_ k) (gy.at_ k)
   generalize x.getD k 0 = x1 at *
   generalize y.getD k 0 = y1 at *
   generalize x1 ^^^ y1 = z1 at *
   obtain ⟨L, hL⟩ : ∃ L, X.take k = L := ⟨_, rfl⟩
   rw [hL] at hst hown hll
   have HST1 := Lib.hid hst; clear hst hL
   have C1 := Lib.hid c1; clear c1
   have C2 := Lib.hid c2; clear c2
   have HXX := Lib.hid hxx; clear hxx
   go_wp2_with fail
   refine wp_region_tree (.q 0 (.q 1 (.q 2 (.q 3 (.q 4 (.q 5 (.q 6 (.q 7 (.q 8 (.q 9 (.e [10] fun _ => .e [11] fun _ => .q 12 (.done)))))))))))) (fun W => Below w.heap.size w W) rfl (by kernel_rfl) (fun _ _ d _ _ h => by cases d <;> exact h) ?_
   have hS : Below w.heap.size w wr.drew := below_drewN hbel 1
   iterate 3 (refine t_q rfl rfl hS _ (fun W hW => by (go_simp; rfl)) ?_; go_simp)
   refine t_q rfl rfl hS (.pointer (some ⟨b1, o1 + k, none⟩)) (fun W hW => by go_simp) ?_
   go_simp
   refine t_q rfl rfl hS (.int .u8 (x1 : Nat)) (fun W hW => by (have hc := C1.out W hW; go_simp)) ?_
   go_simp
   iterate 2 (refine t_q rfl rfl hS _ (fun W hW => by (go_simp; rfl)) ?_; go_simp)
   refine t_q rfl rfl hS (.pointer (some ⟨b2, o2 + k, none⟩)) (fun W hW => by go_simp) ?_
   go_simp
   refine t_q rfl rfl hS (.int .u8 (y1 : Nat)) (fun W hW => by (have hc := C2.out W hW; go_simp)) ?_
   go_simp
   refine t_q rfl rfl hS (.int .u8 (z1 : Nat)) (fun W hW => by (go_simp; exact HXX.out)) ?_
   go_simp
   refine t_e rfl rfl fun K hK => ?_
   go_simp
   refine hK _ _ (hS.alloc (by simp; omega) _) ?_
   clear hK K
   change wpT _ _ _ _ _ _ (wr.drew.alloc (.cells #[.int .u8 (z1 : Int)] 5))
   have hown4 := OwnN.below hown ((below_drewN (Below.refl wr.heap.size wr) 1).alloc (Nat.le_refl _) (.cells #[.int .u8 (z1 : Int)] 5)) (Nat.le_refl _)
   refine t_e rfl rfl fun K hK => ?_
   refine op_append_nums (.tmp 19) (.tmp 29) 22 rfl .u8 5 1 Tryz.underlying22 info_byte w.heap.size w _ L rfl hown4 (hS.alloc (by simp; omega) _) (by simp; omega) _ 1 1 [z1] rfl rfl ⟨_, _, rfl, Ns.new .u8 wr.drew 5 z1⟩ (by omega) (by omega) fun v5 w5 hown5 hbel5 hsz5 => ?_
   rw [← HST1.out] at hown5
   refine hK _ _ hbel5 ?_
   clear hK K hown4
   go_simp
   refine t_q rfl rfl hbel5 _ (fun W hW => by (go_simp; rfl)) ?_
   go_simp
   refine t_done ?_
   go_wp2
   go_roundw
   case rel => exact ⟨k + 1, by omega, by go_num, hown5, hbel5⟩
   case measure => simp [intOf]; omega
  ·
   obtain rfl : n = k := by omega
   rw [HFIN.out] at hown
   go_wp2
   go_ret
   exact ⟨⟨_, rfl, hown⟩, hbel⟩

end Go.Proofs.YthodpjcdmdbnoaaGreatDoor

/- The contract of lockboxref07.double. -/
namespace Go.Proofs.YthodpjcdmdbnoaaGreatDoor
open Go Go.RowKit Pr

end Go.Proofs.YthodpjcdmdbnoaaGreatDoor

/- The contract of lockboxref06.Do, enciphering. -/
namespace Go.Proofs.YthodpjcdmdbnoaaGreatDoor
open Go Go.RowKit Pr

theorem Bs.grown {w w' : World} {b o : Nat} {l : List Nat} {row : Option Nat} (h : Bs w b o l) (hg : w.grownBy w' row) (hb : b < w.heap.size) (hne : some b ≠ row) : Bs w' b o l := Ns.grownW h hg hb hne

end Go.Proofs.YthodpjcdmdbnoaaGreatDoor
