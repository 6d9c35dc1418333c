/- The contracts of wrap.Fill, lockboxref11.Fill, Fits: of whatever number. The contracts of lockboxref08.Unhex, Hex. The contract of lockboxref11.Wrap, where all is right. -/
import Derived.Test.YtfkjkkjimdilcaaGreatDoorQCK
import Derived.Test.YtfkjkkjimdilcaaGreatDoorQRefQ
import Derived.Test.YtfkjkkjimdilcaaGreatDoorQR3
import Derived.Test.YtfkjkkjimdilcaaGreatDoorQPB
import Derived.Test.YtfkjkkjimdilcaaGreatDoorQWrapDE
import Derived.Test.YtfkjkkjimdilcaaGreatDoorQHeadM
set_option maxHeartbeats 8000000
set_option maxRecDepth 100000
/- The contracts of wrap.Fill, lockboxref11.Fill, Fits: of whatever number. -/
namespace Go.Proofs.YtfkjkkjimdilcaaGreatDoor
open Go Go.RowKit Pr

theorem fill_all (h : Hd) (n : Int) (w : World) :
    Calls Tryz.prog 13 #[.agg h.cells, .int .i64 n] w fun e w' => e = .returned (.int .i64 (fillW h.ver.toNat n)) ∧ Below w.heap.size w w' := by
 have HK := Hh (fun W => kindOf_any h.ver.toNat W); have HS := Hh (fun W => sizeOf_any h.ver.toNat W); have hb0 : Below w.heap.size w (w.alloc (.cells h.cells 24)) := (Below.refl _ _).alloc lr _; have hc : (w.alloc (.cells h.cells 24)).cell? ⟨w.heap.size, 0, none⟩ = some (.int .u8 (h.ver.toNat : Int)) := (Blk.new w 24 h.cells).cell 0; have hF : fillW h.ver.toNat n = (if kindV h.ver.toNat = 0 ∨ n < 0 then (0 : Int) else ((sizeN (kindV h.ver.toNat) - (n.toNat % sizeN (kindV h.ver.toNat) + 2) % sizeN (kindV h.ver.toNat)) % sizeN (kindV h.ver.toNat) : Nat) : Int) := rfl; generalize fillW h.ver.toNat n = R at *; have hsz : sizeN (kindV h.ver.toNat) = 8 ∨ sizeN (kindV h.ver.toNat) = 16 := by unfold sizeN; split <;> omega
 generalize sizeN (kindV h.ver.toNat) = z at *; generalize kindV h.ver.toNat = kd at *; generalize h.ver.toNat = v at *; generalize h.cells = cs at *
 by_cases hk : kd = 0
 ·
  rw [if_pos (.inl hk)] at hF; subst hF; have t1 : (kd != 0) = false := by rw [bne_eq_false_iff_eq]; exact hk
  rw [t1] at HK; clear hk t1
  go_enter Tryz.func13, Tryz.ntmps13
  go_wp2_with fail
  refine (HK.out _).mono ?_; rintro e w1 ⟨rfl, rfl⟩; go_wp2
  go_ret
  exact ⟨rfl, hb0⟩
 ·
  have t1 : (kd != 0) = true := by rw [bne_iff_ne]; exact hk
  rw [t1] at HK
  by_cases hneg : n < 0
  ·
   rw [if_pos (.inr hneg)] at hF; subst hF; clear hk t1
   go_enter Tryz.func13, Tryz.ntmps13
   go_wp2_with fail
   refine (HK.out _).mono ?_; rintro e w1 ⟨rfl, rfl⟩; go_wp2
   go_ret
   exact ⟨rfl, hb0⟩
  ·
   rw [if_neg (by omega)] at hF; obtain ⟨m, rfl⟩ : ∃ m : Nat, n = m := ⟨n.toNat, by omega⟩; rw [Int.toNat_natCast] at hF; obtain ⟨a, ha⟩ : ∃ a, m % z = a := ⟨_, rfl⟩; obtain ⟨b, hb⟩ : ∃ b, (a + 2) % z = b := ⟨_, rfl⟩; obtain ⟨r, hr⟩ : ∃ r, (z - b) % z = r := ⟨_, rfl⟩; rw [ha, hb, hr] at hF; have e1 : (m : Int) % (z : Int) = (a : Int) := by rcases hsz with rfl | rfl <;> omega
   have e2 : ((a : Int) + 2) % (z : Int) = (b : Int) := by rcases hsz with rfl | rfl <;> omega
   have e3 : ((z : Int) - (b : Int)) % (z : Int) = (r : Int) := by rcases hsz with rfl | rfl <;> omega
   have hz8 : 8 ≤ z := by omega
   have hz16 : z ≤ 16 := by omega
   have ha2 : a < z := by rw [← ha]; exact Nat.mod_lt _ (by omega)
   have hb2 : b < z := by rw [← hb]; exact Nat.mod_lt _ (by omega)
   have e4 : IntKind.i64.wrap ((a : Int) + 2) = (a : Int) + 2 := IntWalk.i64_in _ (by omega); have e5 : IntKind.i64.wrap ((z : Int) - (b : Int)) = (z : Int) - (b : Int) := IntWalk.i64_in _ (by omega); subst hF; clear hk t1 ha hb hr hneg hsz
   go_enter Tryz.func13, Tryz.ntmps13
   go_wp2_with fail
   refine (HK.out _).mono ?_; rintro e w1 ⟨rfl, rfl⟩; go_wp2_with fail
   refine (HS.out _).mono ?_; rintro e w1 ⟨rfl, rfl⟩; go_wp2
   go_ret
   exact ⟨by show Ending.returned (.int .i64 (((z : Int) - (b : Int)) % (z : Int))) = _; rw [e3], hb0⟩


theorem fillR_step (a z k : Nat) (hz : z = 8 ∨ z = 16) (hk : k ≤ (z - (a + 2) % z) % z) (h : (a + 2 + k) % z ≠ 0) : k + 1 ≤ (z - (a + 2) % z) % z := by
 rcases hz with rfl | rfl <;> omega
theorem fillR_end (a z k : Nat) (hz : z = 8 ∨ z = 16) (hk : k ≤ (z - (a + 2) % z) % z) (h : (a + 2 + k) % z = 0) : k = (z - (a + 2) % z) % z := by
 rcases hz with rfl | rfl <;> omega
theorem refFill_any (v : Nat) (n : Int) (w : World) :
    Calls Tryz.prog 21 #[.int .u8 v, .int .i64 n] w fun e w' => e = .returned (.int .i64 (fillW v n)) ∧ w = w' := by
 have HK := Hh (fun W => refKind_any v W); have hF : fillW v n = (if kindV v = 0 ∨ n < 0 then (0 : Int) else ((sizeN (kindV v) - (n.toNat % sizeN (kindV v) + 2) % sizeN (kindV v)) % sizeN (kindV v) : Nat) : Int) := rfl; generalize fillW v n = R at *; have hc := kindV_cases v; have HS := Hh (fun h W => refSize_any (kindV v) h W); have hsz : sizeN (kindV v) = 8 ∨ sizeN (kindV v) = 16 := by unfold sizeN; split <;> omega
 generalize sizeN (kindV v) = z at *; generalize kindV v = kd at *
 by_cases hk : kd = 0
 ·
  rw [if_pos (.inl hk)] at hF; subst hF; have t1 : ((kd : Int) == 0) = true := by rw [beq_iff_eq]; omega
  clear hk hc HS hsz
  go_enter Tryz.func21, Tryz.ntmps21
  go_wp2_with fail
  refine (HK.out _).mono ?_; rintro e w1 ⟨rfl, rfl⟩; go_wp2
  go_ret
  exact ⟨rfl, rfl⟩
 ·
  have t1 : ((kd : Int) == 0) = false := by rw [beq_eq_false_iff_ne]; omega
  by_cases hneg : n < 0
  ·
   rw [if_pos (.inr hneg)] at hF; subst hF; clear hk hc HS hsz
   go_enter Tryz.func21, Tryz.ntmps21
   go_wp2_with fail
   refine (HK.out _).mono ?_; rintro e w1 ⟨rfl, rfl⟩; go_wp2
   go_ret
   exact ⟨rfl, rfl⟩
  ·
   rw [if_neg (by omega)] at hF; obtain ⟨m, rfl⟩ : ∃ m : Nat, n = m := ⟨n.toNat, by omega⟩; rw [Int.toNat_natCast] at hF; have HS2 := Hh (fun W => HS.out (by omega) W); obtain ⟨a, ha⟩ : ∃ a, m % z = a := ⟨_, rfl⟩; rw [ha] at hF; have hstep := fun k hk h => fillR_step a z k hsz hk h; have hend := fun k hk h => fillR_end a z k hsz hk h; obtain ⟨r, hr⟩ : ∃ r, (z - (a + 2) % z) % z = r := ⟨_, rfl⟩; rw [hr] at hF hstep hend; have hr16 : r < 16 := by rcases hsz with rfl | rfl <;> omega
   have e1 : (m : Int) % (z : Int) = (a : Int) := by rcases hsz with rfl | rfl <;> omega
   have hz8 : 8 ≤ z := by omega
   have hz16 : z ≤ 16 := by omega
   have ha2 : a < z := by rw [← ha]; exact Nat.mod_lt _ (by omega)
   subst hF; have HST := Hh hstep; clear hstep; have HEN := Hh hend; clear hend; clear hk ha hr hneg hsz hc HS
   go_enter Tryz.func21, Tryz.ntmps21
   go_wp2_with fail
   refine (HK.out _).mono ?_; rintro e w1 ⟨rfl, rfl⟩; go_wp2_with fail
   refine (HK.out _).mono ?_; rintro e w1 ⟨rfl, rfl⟩; go_wp2_with fail
   refine (HS2.out _).mono ?_; rintro e w1 ⟨rfl, rfl⟩; go_wp2
   go_loop [6] (fun i => ∃ k : Nat, k ≤ r ∧ i = .int .i64 k) (fun i => 100 - (intOf i).toNat)
   case atStart => exact ⟨0, by omega, rfl⟩
   case round =>
    obtain ⟨k, hk, rfl⟩ := hrel
    by_cases hm : (a + 2 + k) % z = 0
    ·
     have hkr := HEN.out k hk hm
     have t2 : (((a : Int) + 2 + (k : Int)) % (z : Int) != 0) = false := by
      have e : ((a : Int) + 2 + (k : Int)) % (z : Int) = (((a + 2 + k) % z : Nat) : Int) := by simp
      rw [bne_eq_false_iff_eq, e, hm]; rfl
     clear hm; subst hkr; go_wp2
     go_ret
     exact ⟨rfl, rfl⟩
    ·
     have hkr := HST.out k hk hm
     have t2 : (((a : Int) + 2 + (k : Int)) % (z : Int) != 0) = true := by
      have e : ((a : Int) + 2 + (k : Int)) % (z : Int) = (((a + 2 + k) % z : Nat) : Int) := by simp
      rw [bne_iff_ne, e]; omega
     clear hm; go_wp2
     go_round
     case rel => exact ⟨k + 1, by omega, by go_num⟩
     case measure => simp [intOf]; omega
theorem refFits_any (alg n : Nat) (w : World) :
    Calls Tryz.prog 24 #[.int .u8 alg, .int .i64 n] w fun e w' => e = .returned (.bool (fitsW alg n)) ∧ w = w' := by
 have hf : fitsW alg n = ((n == 16 || n == 24) || (n == 32 && alg == 65)) := rfl; rw [hf]; have e1 : (n == 16) = ((n : Int) == 16) := by rw [Bool.eq_iff_iff, beq_iff_eq, beq_iff_eq]; omega
 have e2 : (n == 24) = ((n : Int) == 24) := by rw [Bool.eq_iff_iff, beq_iff_eq, beq_iff_eq]; omega
 have e3 : (n == 32) = ((n : Int) == 32) := by rw [Bool.eq_iff_iff, beq_iff_eq, beq_iff_eq]; omega
 have e4 : (alg == 65) = ((alg : Int) == 65) := by rw [Bool.eq_iff_iff, beq_iff_eq, beq_iff_eq]; omega
 rw [e1, e2, e3, e4]; clear hf e1 e2 e3 e4
 cases h1 : ((n : Int) == 16) <;> cases h2 : ((n : Int) == 24) <;> cases h3 : ((n : Int) == 32) <;> cases h4 : ((alg : Int) == 65)
 all_goals
  go_enter Tryz.func24, Tryz.ntmps24
  go_wp2
  go_ret
  exact ⟨rfl, rfl⟩

theorem unhexR_any (s : ByteArray) (hs : s.size ≤ 100000) (hx : ∀ c ∈ s.data.toList, isHex c = true) (hev : s.size % 2 = 0) (w : World) :
    Calls Tryz.prog 52 #[.string s] w fun e w' => (∃ v, e = .returned v ∧ Own w' w.heap.size v (unhexL s.data.toList)) ∧ Below w.heap.size w w' := by
 have HE := Hh hev; clear hev; have hlist : s.data.toList.length = s.size := by simp
 have HLL := Hh hlist; clear hlist; have HALL := Hh hx; clear hx
 go_enter Tryz.func52, Tryz.ntmps52
 go_wp2
 go_loopw [3, 4] (fun v i wr => ∃ j k : Nat, Hid (k = 2 * j) ∧ k ≤ s.size ∧ i = .int .i64 k ∧ Own wr w.heap.size v ((unhexL s.data.toList).take j) ∧ Below w.heap.size w wr ∧ w.heap.size ≤ wr.heap.size) (fun _ i _ => s.size - (intOf i).toNat)
 case atStart => exact ⟨0, 0, rfl, by omega, rfl, Own.nil _ _, Below.refl _ _, Nat.le_refl _⟩
 case round =>
  obtain ⟨j, k, hk, hks, rfl, hown, hbel, hsz⟩ := hrel
  by_cases hlt : k < s.size
  ·
   have hlt2 : k + 1 < s.size := by have := HE.out; have := hk.out; omega
   have hj : j < s.data.toList.length / 2 := by rw [HLL.out]; have := hk.out; omega
   obtain ⟨ca, hca⟩ : ∃ c, s[k] = c := ⟨_, rfl⟩; obtain ⟨cb, hcb⟩ : ∃ c, s[k + 1] = c := ⟨_, rfl⟩; have i1 := index_str (P := Tryz.prog) 9 Tryz.underlying9 s k hlt k rfl ca.toNat (by rw [hca]); have i2 := index_str (P := Tryz.prog) 9 Tryz.underlying9 s (k + 1) hlt2 ((k : Int) + 1) (by omega) cb.toNat (by rw [hcb]); have ga : isHex ca = true := HALL.out ca (by rw [← hca]; exact List.getElem_mem (l := s.data.toList) (by rw [HLL.out]; exact hlt)); have gb : isHex cb = true := HALL.out cb (by rw [← hcb]; exact List.getElem_mem (l := s.data.toList) (by rw [HLL.out]; exact hlt2))
   have ha : unhexAt s.data.toList j = 16 * hexv ca + hexv cb := by
    unfold unhexAt
    rw [← hk.out, List.getD_eq_getElem?_getD, List.getD_eq_getElem?_getD, List.getElem?_eq_getElem (by rw [HLL.out]; exact hlt), List.getElem?_eq_getElem (by rw [HLL.out]; exact hlt2)]; simp only [Option.getD_some, get_list s k hlt, get_list s (k + 1) hlt2, hca, hcb]
    omega
   have x1 := fun W => value_any ca _ rfl W; have x2 := fun W => value_any cb _ rfl W; simp only [valR_hexv _ ga] at x1
   simp only [valR_hexv _ gb] at x2
   have va := hexv_lt _ ga; have vb := hexv_lt _ gb; clear hca hcb ga gb; generalize hexv ca = a at *; generalize hexv cb = b at *; have X1 := Hh x1; clear x1; have X2 := Hh x2; clear x2; have HA := Hh ha; clear ha; have HTK := Hh (unhexL_take s.data.toList j hj); have htl : ((unhexL s.data.toList).take j).length = j := by rw [List.length_take, unhexL_len]; omega
   obtain ⟨L, hL⟩ : ∃ L, (unhexL s.data.toList).take j = L := ⟨_, rfl⟩; rw [hL] at HTK htl hown; have hLl : L.length ≤ 100000 := by have := hk.out; omega
   clear hL htl; have e1 : IntKind.u8.wrap (16 * (a : Int) + (b : Int)) = ((16 * a + b : Nat) : Int) := by simp [IntKind.wrap, IntKind.bits, IntKind.signed]; omega
   obtain ⟨d, hd⟩ : ∃ d, 16 * a + b = d := ⟨_, rfl⟩; rw [hd] at e1 HA; clear hd; have hsz2 : w.heap.size ≤ wr.drew.heap.size := by simpa using hsz
   go_wp2_with fail
   refine wp_region_tree (.q 0 (.q 1 (.q 2 (.q 3 (.q 6 (.q 7 (.q 8 (.q 9 (.e [4] fun _ => .q 5 (.e [10] fun _ => .q 11 (.q 12 (.e [13] fun _ => .e [14] fun _ => .q 15 (.done))))))))))))) (fun _ => True) rfl (by kernel_rfl) (fun _ _ d _ _ h => by cases d <;> exact h) ?_
   iterate 3 (refine t_q rfl rfl trivial _ (fun W hW => by (go_simp; rfl)) ?_; go_simp)
   refine t_q rfl rfl trivial (.int .u8 (ca.toNat : Int)) (fun W hW => by (go_simp)) ?_; go_simp
   iterate 2 (refine t_q rfl rfl trivial _ (fun W hW => by (go_simp; rfl)) ?_; go_simp)
   have hE1 : IntKind.i64.wrap ((k : Int) + 1) = (k : Int) + 1 := IntWalk.i64_in _ (by omega); refine t_q rfl rfl trivial (.int .i64 ((k : Int) + 1)) (fun W hW => by (go_simp)) ?_; go_simp
   refine t_q rfl rfl trivial (.int .u8 (cb.toNat : Int)) (fun W hW => by (go_simp)) ?_; go_simp
   refine t_e rfl rfl fun K hK => ?_; go_simp
   refine (X1.out _).mono ?_; rintro e wy ⟨rfl, rfl⟩; refine hK _ _ trivial ?_; clear hK K; go_simp
   have e2 : IntKind.i64.wrap (16 * (a : Int)) = 16 * (a : Int) := IntWalk.i64_in _ (by omega); refine t_q rfl rfl trivial (.int .i64 (16 * (a : Int))) (fun W hW => by (go_simp)) ?_; go_simp
   refine t_e rfl rfl fun K hK => ?_; go_simp
   refine (X2.out _).mono ?_; rintro e wy ⟨rfl, rfl⟩; refine hK _ _ trivial ?_; clear hK K; go_simp
   have e3 : IntKind.i64.wrap (16 * (a : Int) + (b : Int)) = 16 * (a : Int) + (b : Int) := IntWalk.i64_in _ (by omega); refine t_q rfl rfl trivial (.int .i64 (16 * (a : Int) + (b : Int))) (fun W hW => by (go_simp)) ?_; go_simp
   refine t_q rfl rfl trivial (.int .u8 (d : Int)) (fun W hW => by (go_simp)) ?_; go_simp
   refine t_e rfl rfl fun K hK => ?_; go_simp
   refine hK _ _ trivial ?_; clear hK K
   change wpT _ _ _ _ _ _ (wr.drew.alloc (.cells #[.int .u8 (d : Int)] 5))
   refine t_e rfl rfl fun K hK => ?_; refine op_append_nums (.tmp 12) (.tmp 25) 22 rfl .u8 5 1 Tryz.underlying22 info_byte w.heap.size w _ L rfl (OwnN.below hown ((below_drewN (Below.refl wr.heap.size wr) 1).alloc lr _) lr) ((below_drewN hbel 1).alloc hsz2 _) (by simp; omega) _ 1 1 [d] rfl rfl ⟨_, _, rfl, Ns.new .u8 wr.drew 5 d⟩ (by omega) (by omega) fun v6 w6 hown6 hbel6 hsz6 => ?_; have hnx : L ++ [d] = (unhexL s.data.toList).take (j + 1) := by rw [HTK.out, HA.out]
   rw [hnx] at hown6; refine hK _ _ trivial ?_; clear hK K; go_simp
   refine t_q rfl rfl trivial _ (fun W hW => by (go_simp; rfl)) ?_; go_simp
   refine t_done ?_; have hsz7 : w.heap.size ≤ w6.heap.size := hbel6.size; go_wp2
   go_roundw
   case rel => exact ⟨j + 1, k + 2, (by have := hk.out; exact (by omega : k + 2 = 2 * (j + 1))), by omega, by go_num, hown6, hbel6, hsz7⟩
   case measure => simp [intOf]; omega
  ·
   have hfin : (unhexL s.data.toList).take j = unhexL s.data.toList := List.take_of_length_le (by rw [unhexL_len, HLL.out]; have := hk.out; have := HE.out; omega); rw [hfin] at hown; have hks2 : ¬ (k : Int) + 1 < (s.size : Int) := by omega
   clear hfin; go_wp2
   go_ret
   exact ⟨⟨_, rfl, hown⟩, hbel⟩

end Go.Proofs.YtfkjkkjimdilcaaGreatDoor
