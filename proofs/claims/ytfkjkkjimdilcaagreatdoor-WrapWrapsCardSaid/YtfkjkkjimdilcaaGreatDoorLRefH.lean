/- The contracts of lockboxref08.Unhex, Hex. -/
import Derived.Test.YtfkjkkjimdilcaaGreatDoorLRefQ
import Derived.Test.YtfkjkkjimdilcaaGreatDoorLR3
import Derived.Test.YtfkjkkjimdilcaaGreatDoorLPinB
namespace Go.Proofs.YtfkjkkjimdilcaaGreatDoor
open Go Go.RowKit Pr

theorem str_one (x : UInt8) : (⟨#[x]⟩ : ByteArray) = str [x] := rfl

set_option maxHeartbeats 2000000 in
set_option maxRecDepth 100000 in
theorem hexR_any (l : List Nat) (hl : ∀ c ∈ l, c < 256) (hlen : l.length ≤ 1000) (A : Option Addr) (cp : Nat) (w : World) (hA : At w A l) :
    Calls Tryz.prog 49 #[.slice A l.length cp] w fun e w' => e = .returned (.string (str (hexL l))) ∧ Below w.heap.size w w' := by
 obtain ⟨n, hn⟩ : ∃ n, l.length = n := ⟨_, rfl⟩
 rw [hn] at hlen ⊢
 have HN := Lib.hid hn; clear hn
 have HLT := Lib.hid hl; clear hl
 have HA := Lib.hid hA; clear hA
 go_enter Tryz.func49, Tryz.ntmps49
 go_wp2
 go_loopw [3, 4] (fun v i wr => ∃ k : Nat, k ≤ n ∧ i = .int .i64 k ∧ v = .string (str (hexL (l.take k))) ∧ Below w.heap.size w wr) (fun _ i _ => n - (intOf i).toNat)
 case atStart => exact ⟨0, by omega, rfl, rfl, Below.refl _ _⟩
 case round =>
  obtain ⟨k, hk, rfl, rfl, hbel⟩ := hrel
  by_cases hlt : k < n
  ·
   have hki : (k : Int) < (n : Int) := by omega
   have hkl : k < l.length := by rw [HN.out]; exact hlt
   obtain ⟨b, o, rfl, hBs⟩ := HA.out (by intro h; rw [h] at hkl; cases hkl)
   have hblt := hBs.lt (by intro h; rw [h] at hkl; cases hkl)
   have hcell : ∀ W, Below w.heap.size w W → W.cell? ⟨b, o + k, none⟩ = some (.int .u8 (l[k] : Nat)) := fun W hW => (hBs.below hW hblt).cell k hkl
   have hc := HLT.out l[k] (List.getElem_mem _)
   have hstep : hexL (l.take (k + 1)) = hexL (l.take k) ++ [hexd (l[k] / 16)] ++ [hexd (l[k] % 16)] := by rw [List.take_succ_eq_append_getElem hkl, hexL_snoc]
   have hll : (hexL (l.take k)).length ≤ 2000 := by rw [hexL_len, List.length_take]; omega
   obtain ⟨c, hc0⟩ : ∃ c, l[k] = c := ⟨_, rfl⟩
   rw [hc0] at hc hcell hstep
   clear hc0
   have hD1 := Lib.hid (fun W => digit8_any (c / 16) (by omega) W)
   have hD2 := Lib.hid (fun W => digit8_any (c % 16) (by omega) W)
   have d1 : ((c : Int)) / 16 = ((c / 16 : Nat) : Int) := by omega
   have d2 : ((c : Int)) % 16 = ((c % 16 : Nat) : Int) := by omega
   have d3 : IntKind.i64.wrap ((c : Int) / 16) = ((c / 16 : Nat) : Int) := by rw [IntWalk.i64_in _ (by omega)]; exact d1
   have d4 : ((c : Int)).tmod 16 = ((c % 16 : Nat) : Int) := by rw [Int.tmod_eq_emod_of_nonneg (by omega)]; exact d2
   have ew : IntKind.i64.wrap (c : Int) = (c : Int) := IntWalk.i64_in _ (by omega)
   obtain ⟨y1, hy1⟩ : ∃ y, c / 16 = y := ⟨_, rfl⟩
   obtain ⟨y2, hy2⟩ : ∃ y, c % 16 = y := ⟨_, rfl⟩
   rw [hy1] at hstep hD1 d1 d3
   rw [hy2] at hstep hD2 d2 d4
   clear hy1 hy2
   have DD1 := Lib.hid d1; clear d1
   have DD2 := Lib.hid d2; clear d2
   have DD3 := Lib.hid d3; clear d3
   have DD4 := Lib.hid d4; clear d4
   generalize hexd y1 = z1 at *
   generalize hexd y2 = z2 at *
   have HST := Lib.hid hstep; clear hstep
   have HCELL := Lib.hid hcell; clear hcell
   generalize hexL (l.take k) = L at *
   have s1 := str_size L
   have s2 := str_size (L ++ [z1])
   have a1 := str_add L [z1]
   have a2 := str_add (L ++ [z1]) [z2]
   rw [← str_one] at a1 a2
   rw [← HST.out] at a2
   rw [List.length_append, List.length_singleton] at s2
   generalize hY2 : str (hexL (l.take (k + 1))) = Y2 at *
   have HY2 := Lib.hid hY2; clear hY2
   generalize str (L ++ [z1]) = Y1 at *
   generalize str L = Y0 at *
   have A1 := Lib.hid a1; clear a1
   have A2 := Lib.hid a2; clear a2
   go_wp2_with fail
   refine wp_region_tree (.q 0 (.q 1 (.q 2 (.q 3 (.q 4 (.q 5 (.q 6 (.q 9 (.q 10 (.q 11 (.q 12 (.q 13 (.q 14 (.e [7] fun _ => .q 8 (.e [15] fun _ => .q 16 (.q 17 (.done))))))))))))))))) (fun W => Below w.heap.size w W) rfl (by kernel_rfl) (fun _ _ d _ _ h => by cases d <;> exact h) ?_
   have hw3 : Below w.heap.size w wr.drew := below_drewN hbel 1
   iterate 3 (refine t_q rfl rfl hw3 _ (fun W hW => by (go_simp; rfl)) ?_; go_simp)
   refine t_q rfl rfl hw3 (.pointer (some ⟨b, o + k, none⟩)) (fun W hW => by go_simp) ?_
   go_simp
   refine t_q rfl rfl hw3 (.int .u8 (c : Nat)) (fun W hW => by (have hc := HCELL.out W hW; go_simp)) ?_
   go_simp
   refine t_q rfl rfl hw3 (.int .i64 (c : Nat)) (fun W hW => by (go_simp)) ?_
   go_simp
   refine t_q rfl rfl hw3 (.int .i64 (y1 : Nat)) (fun W hW => by (go_simp; first | done | exact DD1.out | exact DD3.out)) ?_
   go_simp
   iterate 2 (refine t_q rfl rfl hw3 _ (fun W hW => by (go_simp; rfl)) ?_; go_simp)
   refine t_q rfl rfl hw3 (.pointer (some ⟨b, o + k, none⟩)) (fun W hW => by go_simp) ?_
   go_simp
   refine t_q rfl rfl hw3 (.int .u8 (c : Nat)) (fun W hW => by (have hc := HCELL.out W hW; go_simp)) ?_
   go_simp
   refine t_q rfl rfl hw3 (.int .i64 (c : Nat)) (fun W hW => by (go_simp)) ?_
   go_simp
   refine t_q rfl rfl hw3 (.int .i64 (y2 : Nat)) (fun W hW => by (go_simp; first | done | exact DD2.out | exact DD4.out)) ?_
   go_simp
   refine t_e rfl rfl fun K hK => ?_
   go_simp
   refine (hD1.out _).mono ?_
   rintro e w1 ⟨rfl, hb1⟩
   have hw4 := hw3.trans (hb1.mono hw3.size)
   refine hK _ _ hw4 ?_
   clear hK K
   go_simp
   refine t_q rfl rfl hw4 (.string Y1) (fun W hW => by (go_simp; rw [if_neg (by omega), A1.out])) ?_
   go_simp
   refine t_e rfl rfl fun K hK => ?_
   go_simp
   refine (hD2.out _).mono ?_
   rintro e w2 ⟨rfl, hb2⟩
   have hw5 := hw4.trans (hb2.mono hw4.size)
   refine hK _ _ hw5 ?_
   clear hK K
   go_simp
   refine t_q rfl rfl hw5 (.string Y2) (fun W hW => by (go_simp; rw [if_neg (by omega), A2.out])) ?_
   go_simp
   refine t_q rfl rfl hw5 _ (fun W hW => by (go_simp; rfl)) ?_
   go_simp
   refine t_done ?_
   go_wp2
   go_roundw
   case rel => exact ⟨k + 1, by omega, by go_num, by rw [HY2.out], hw5⟩
   case measure => simp [intOf]; omega
  ·
   have hfin : l.take k = l := List.take_of_length_le (by rw [HN.out]; omega)
   rw [hfin]
   clear hfin
   go_wp2
   go_ret
   exact ⟨rfl, hbel⟩
end Go.Proofs.YtfkjkkjimdilcaaGreatDoor
