/- lockboxlaw14.PinMakes: the walk. -/
import Derived.Test.YtnkgglmfoimbhaaDoorLaw14
import Derived.Test.YtnkgglmfoimbhaaDoorRefC
import Derived.Test.YtnkgglmfoimbhaaDoorCode
namespace Go.Proofs.YtnkgglmfoimbhaaDoor
open Go Go.RowKit Pr

theorem eq_z8 (W : World) : (Op.equalIn 10000 22 (.agg #[.int .u8 0, .int .u8 0, .int .u8 0, .int .u8 0, .int .u8 0, .int .u8 0, .int .u8 0, .int .u8 0]) (.agg #[.int .u8 0, .int .u8 0, .int .u8 0, .int .u8 0, .int .u8 0, .int .u8 0, .int .u8 0, .int .u8 0])).run Tryd.prog W = .ok true W := by
  have := eqBytes (P := Tryd.prog) W 22 5 8 Tryd.underlying22 Tryd.underlying5 (fun w => size_u8 info_u8 w) z8 z8 rfl rfl (by decide) (by decide)
  rw [show decide (z8 = z8) = true from decide_eq_true rfl] at this
  exact this
theorem makeVal_len (f : Int) (p a : List UInt8) (fill : List Nat) : (makeVal f p a fill).length = 8 := by
  unfold makeVal
  split
  · exact makeD_len _ _ _ _
  · rfl
theorem decEr_dec {s : List UInt8} {lo hi : Nat} (h : decEr s lo hi = .ok) : lo ≤ s.length ∧ s.length ≤ hi ∧ ∀ c ∈ s, isDec c = true := by
  unfold decEr at h
  split at h
  · cases h
  · rename_i h1
    split at h
    · cases h
    · rename_i h2
      exact ⟨by omega, by omega, all_of_badAt h2⟩
theorem bothEr_dec {p a : List UInt8} (h : bothEr p a = .ok) : (4 ≤ p.length ∧ p.length ≤ 12 ∧ ∀ c ∈ p, isDec c = true) ∧ (13 ≤ a.length ∧ a.length ≤ 19 ∧ ∀ c ∈ a, isDec c = true) := by
  unfold bothEr at h
  split at h
  · rename_i hp
    exact ⟨decEr_dec hp, decEr_dec h⟩
  · rename_i hp
    exact absurd h hp
theorem makeVal_lt (f : Int) (p a : List UInt8) (fill : List Nat) (hfb : ∀ c ∈ fill, c < 256) : ∀ c ∈ makeVal f p a fill, c < 256 := by
  unfold makeVal
  split
  · rename_i h
    unfold makeEr at h
    split at h
    · rename_i hf
      obtain ⟨⟨_, h12, hp⟩, ⟨_, _, ha⟩⟩ := bothEr_dec h
      unfold makeD
      exact packN_lt _ (turnD_lt _ _ _ ha (rawD_lt _ _ _ (by omega) (by omega) hp hfb))
    · cases h
  · decide
theorem bothEr_code {p a : List UInt8} (h : bothEr p a ≠ .ok) : (erCode (bothEr p a) != 0) = true := by
  have hd : ∀ (s : List UInt8) lo hi, decEr s lo hi ≠ .ok → (erCode (decEr s lo hi) != 0) = true := fun s lo hi hn => by
    rcases decEr_cases s lo hi with e | ⟨k, e⟩ | e
    · rw [e]; rfl
    · rw [e]; rfl
    · exact absurd e hn
  unfold bothEr at *
  split at h
  · rename_i hp
    exact hd _ _ _ h
  · rename_i hp
    exact hd p 4 12 hp

set_option maxHeartbeats 4000000 in
set_option maxRecDepth 100000 in
theorem makes14 (f : Int) (p : ByteArray) (hp : p.size ≤ 140737488351232) (a : ByteArray) (ha : a.size ≤ 140737488351232) (fill : List Nat) (hfl : fill.length = 8) (hfb : ∀ c ∈ fill, c < 256) (w : World) (hG : EtOk w) :
    Calls Tryd.prog 3 #[.int .i64 f, .string p, .string a, .agg (byteCells fill)] w fun e w' => e = .returned (.bool true) ∧ Below w.heap.size w w' := by
  by_cases hsz : p.size ≤ 100 ∧ a.size ≤ 100
  · obtain ⟨hp1, ha1⟩ := hsz
    have hdef : makeEr f p.data.toList a.data.toList = if f = 0 ∨ f = 1 ∨ f = 3 then bothEr p.data.toList a.data.toList else .no 1 := rfl
    have HM := Lib.hid (fun W => make_any f p a hp ha fill hfl hfb W)
    have HW1 := Lib.hid (fun W => wrongR_any p hp 4 12 (by omega) (by omega) W)
    have HW2 := Lib.hid (fun W => wrongR_any a ha 13 19 (by omega) (by omega) W)
    have HR := Lib.hid (fun W => right_pin p hp W)
    have HA := Lib.hid (fun W => account_any a ha W)
    have HBAD := Lib.hid (fun W => bad_any p a hp ha W)
    have hVl := makeVal_len f p.data.toList a.data.toList fill
    have hcase : (¬ (f = 0 ∨ f = 1 ∨ f = 3) ∧ makeEr f p.data.toList a.data.toList = .no 1 ∧ makeVal f p.data.toList a.data.toList fill = z8)
        ∨ ((f = 0 ∨ f = 1 ∨ f = 3) ∧ makeEr f p.data.toList a.data.toList = bothEr p.data.toList a.data.toList ∧ (erCode (bothEr p.data.toList a.data.toList) != 0) = true ∧ makeVal f p.data.toList a.data.toList fill = z8)
        ∨ ((f = 0 ∨ f = 1 ∨ f = 3) ∧ makeEr f p.data.toList a.data.toList = .ok ∧ erCode (bothEr p.data.toList a.data.toList) = 0 ∧ ∀ W, Calls Tryd.prog 17 #[.int .i64 f, .string p, .string a, .agg (byteCells fill)] W fun e w' =>
            (∃ v, e = .returned v ∧ Own w' W.heap.size v (makeVal f p.data.toList a.data.toList fill)) ∧ Below W.heap.size W w') := by
      by_cases hf : f = 0 ∨ f = 1 ∨ f = 3
      · rw [if_pos hf] at hdef
        by_cases hok : bothEr p.data.toList a.data.toList = .ok
        · refine .inr (.inr ⟨hf, hdef.trans hok, by rw [hok]; rfl, fun W => ?_⟩)
          rw [makeVal_ok (hdef.trans hok)]
          have hb := hok
          unfold bothEr at hb
          split at hb
          · rename_i hp4
            obtain ⟨q1, q2, q3⟩ := pin_ok p hp4
            obtain ⟨r1, r2, r3⟩ := field_ok a hb
            obtain ⟨n, rfl⟩ : ∃ n : Nat, f = n := ⟨f.toNat, by omega⟩
            exact refMake_any n (by omega) p a q2 q3 r1 r2 r3 fill hfl hfb W
          · rename_i h1
            exact absurd hb h1
        · exact .inr (.inl ⟨hf, hdef, bothEr_code hok, makeVal_bad (by rw [hdef]; exact hok)⟩)
      · rw [if_neg hf] at hdef
        exact .inl ⟨hf, hdef, makeVal_bad (by rw [hdef]; intro h; cases h)⟩
    have hVlt := makeVal_lt f p.data.toList a.data.toList fill hfb
    have hbc : bothEr p.data.toList a.data.toList = bothEr p.data.toList a.data.toList := rfl
    clear hdef hbc
    generalize makeEr f p.data.toList a.data.toList = er at *
    generalize makeVal f p.data.toList a.data.toList fill = V at *
    generalize bothEr p.data.toList a.data.toList = eb at *
    generalize decEr p.data.toList 4 12 = ep at *
    generalize decEr a.data.toList 13 19 = ea at *
    have HVL := Lib.hid hVl; clear hVl
    have HC := Lib.hid hcase; clear hcase
    have HFL := Lib.hid hfl; clear hfl
    go_enter Tryd.func3, Tryd.ntmps3
    go_wp2_with fail
    refine (awake14_any _).mono ?_
    rintro e w1 ⟨rfl, hb1⟩
    have hF1 : Bs w1 w.heap.size 0 fill := (Bs.of_blk (l := fill) (Blk.new w _ _) (fun j c hj => by rw [Nat.zero_add]; exact hj)).below hb1 (by simp)
    have hbel1 := ((Below.refl w.heap.size w).alloc (Nat.le_refl _) (.cells (byteCells fill) 22)).trans (hb1.mono (by simp))
    have hs1 : w.heap.size < w1.heap.size := by have := hb1.size; simp at this; omega
    clear hb1
    go_wp2_with (refine wpList_load_bs rfl 22 (.tmp 7) rfl w.heap.size 0 rfl fill hF1 _ Tryd.underlying22 rfl (by rw [info_8u8, HFL.out]) ?_)
    refine (HM.out _).mono ?_
    rintro e w2 ⟨⟨v, rfl, hv⟩, hb2⟩
    have hbel2 := hbel1.trans (hb2.mono hbel1.size)
    have hF2 := hF1.below hb2 hs1
    have hs2 := hb2.size
    have HV2 := Lib.hid hv; clear hv hb2 hF1
    go_wp2_with (refine wpList_store_all rfl 22 (.tmp 9) (.tmp 38) rfl w2.heap.size (byteCells V) rfl rfl 22 _ (Blk.new w2 _ _) (by rw [info_8u8, size_byteCells, HVL.out]) (by rw [size_byteCells, HVL.out]; rfl) (bytes_one _) ?_; intro w3 hB3 hO3)
    have hbel3 : Below w.heap.size w w3 := hO3.below (hbel2.alloc hbel2.size _) hbel2.size
    have hF3 : Bs w3 w.heap.size 0 fill := (hF2.alloc _).only hO3 (by omega)
    have hs3 : w2.heap.size < w3.heap.size := hB3.lt
    have hV3 : ErIs w3 w1.heap.size v er := by
      have h1 : Below w2.heap.size w2 w3 := hO3.below ((Below.refl _ _).alloc (Nat.le_refl _) _) (Nat.le_refl _)
      exact HV2.out.below h1 (Nat.le_refl _)
    have HV3 := Lib.hid hV3
    clear HV2 hF2 hO3 hbel2 hV3
    refine (HW1.out _).mono ?_
    rintro e w4 ⟨rfl, rfl⟩
    go_wp2_with fail
    refine (HW2.out _).mono ?_
    rintro e w4 ⟨rfl, rfl⟩
    go_wp2_with fail
    refine (HR.out _).mono ?_
    rintro e w4 ⟨⟨r, rfl, hr⟩, hb4⟩
    have hbel4 := hbel3.trans (hb4.mono hbel3.size)
    go_wp2_with fail
    refine (HA.out _).mono ?_
    rintro e w5 ⟨⟨c, rfl, hc⟩, hb5⟩
    have hbel5 := hbel4.trans (hb5.mono hbel4.size)
    have hr5 := hr.below hb5 (Nat.le_refl _)
    have HR5 := Lib.hid hr5; clear hr hr5
    have HC5 := Lib.hid hc; clear hc
    have hw35 := hb4.trans (hb5.mono hb4.size)
    go_wp2_with fail
    refine (code_any _ _ _ _ HR5.out (hG.below hbel5 (Nat.le_refl _))).mono ?_
    rintro e w6 ⟨rfl, hb6⟩
    have hbel6 := hbel5.trans (hb6.mono hbel5.size)
    have hw36 := hw35.trans (hb6.mono hw35.size)
    have HR6 := Lib.hid (HR5.out.below hb6 (Nat.le_refl _))
    have HC6 := Lib.hid (HC5.out.below hb6 (Nat.le_refl _))
    go_wp2_with fail
    refine (at_any _ _ _ _ HR6.out (hG.below hbel6 (Nat.le_refl _))).mono ?_
    rintro e w7 ⟨rfl, hb7⟩
    have hbel7 := hbel6.trans (hb7.mono hbel6.size)
    have hw37 := hw36.trans (hb7.mono hw36.size)
    have HC7 := Lib.hid (HC6.out.below hb7 (Nat.le_refl _))
    go_wp2_with fail
    refine (code_any _ _ _ _ HC7.out (hG.below hbel7 (Nat.le_refl _))).mono ?_
    rintro e w8 ⟨rfl, hb8⟩
    have hbel8 := hbel7.trans (hb8.mono hbel7.size)
    have hw38 := hw37.trans (hb8.mono hw37.size)
    have HC8 := Lib.hid (HC7.out.below hb8 (Nat.le_refl _))
    go_wp2_with fail
    refine (at_any _ _ _ _ HC8.out (hG.below hbel8 (Nat.le_refl _))).mono ?_
    rintro e w9 ⟨rfl, hb9⟩
    have hbel9 := hbel8.trans (hb9.mono hbel8.size)
    have hw39 := hw38.trans (hb9.mono hw38.size)
    have hB9 := hB3.below hw39 hs3
    have hF9 := hF3.below hw39 (by omega)
    have HV9 := Lib.hid (HV3.out.below hw39 (Nat.le_refl _))
    have hs9 : w3.heap.size ≤ w9.heap.size := hw39.size
    clear hb4 hb5 hb6 hb7 hb8 hb9 hw35 hw36 hw37 hw38 hw39 HR5 HR6 HC5 HC6 HC7 HC8 hbel3 hbel4 hbel5 hbel6 hbel7 hbel8 hB3 hF3 HV3 HM HW1 HW2 HR HA
    rcases HC.out with ⟨hf, he, hz⟩ | ⟨hf, he, hne, hz⟩ | ⟨hf, he, hz0, hM⟩
    · have t0 : (f != 0) = true := by rw [bne_iff_ne]; omega
      have t1 : (f != 1) = true := by rw [bne_iff_ne]; omega
      have t3 : (f != 3) = true := by rw [bne_iff_ne]; omega
      subst he
      subst hz
      clear hf HC
      have HB9 := Lib.hid hB9; clear hB9
      go_wp2_with fail
      refine (code_any _ _ _ _ HV9.out (hG.below hbel9 (Nat.le_refl _))).mono ?_
      rintro e W ⟨rfl, hb⟩
      have hbel := hbel9.trans (hb.mono hbel9.size)
      have HBW := Lib.hid (HB9.out.below hb (by omega))
      have k0 : W.cell? ⟨w2.heap.size, 0, none⟩ = some (.int .u8 0) := HBW.out.cell 0
      have k1 : W.cell? ⟨w2.heap.size, 1, none⟩ = some (.int .u8 0) := HBW.out.cell 1
      have k2 : W.cell? ⟨w2.heap.size, 2, none⟩ = some (.int .u8 0) := HBW.out.cell 2
      have k3 : W.cell? ⟨w2.heap.size, 3, none⟩ = some (.int .u8 0) := HBW.out.cell 3
      have k4 : W.cell? ⟨w2.heap.size, 4, none⟩ = some (.int .u8 0) := HBW.out.cell 4
      have k5 : W.cell? ⟨w2.heap.size, 5, none⟩ = some (.int .u8 0) := HBW.out.cell 5
      have k6 : W.cell? ⟨w2.heap.size, 6, none⟩ = some (.int .u8 0) := HBW.out.cell 6
      have k7 : W.cell? ⟨w2.heap.size, 7, none⟩ = some (.int .u8 0) := HBW.out.cell 7
      have hq := eq_z8 W
      have f1 : erCode (.no 1) = 1 := rfl
      go_wp2
      go_ret
      exact ⟨rfl, hbel⟩
    · subst he
      subst hz
      clear HC
      have HB9 := Lib.hid hB9; clear hB9
      have HNE := Lib.hid hne; clear hne
      have hE := HNE.out
      rcases hf with rfl | rfl | rfl
      all_goals
        go_wp2_with fail
        refine (HBAD.out _).mono ?_
        rintro e W0 ⟨rfl, rfl⟩
        go_wp2_with fail
        refine (code_any _ _ _ _ HV9.out (hG.below hbel9 (Nat.le_refl _))).mono ?_
        rintro e w10 ⟨rfl, hb⟩
        have hbel := hbel9.trans (hb.mono hbel9.size)
        have HB10 := Lib.hid (HB9.out.below hb (by omega))
        have HV10 := Lib.hid (HV9.out.below hb (Nat.le_refl _))
        have hs10 := hb.size
        go_wp2_with fail
        refine (at_any _ _ _ _ HV10.out (hG.below hbel (Nat.le_refl _))).mono ?_
        rintro e W ⟨rfl, hb2⟩
        have hbelW := hbel.trans (hb2.mono hbel.size)
        have HBW := Lib.hid (HB10.out.below hb2 (by omega))
        have k0 : W.cell? ⟨w2.heap.size, 0, none⟩ = some (.int .u8 0) := HBW.out.cell 0
        have k1 : W.cell? ⟨w2.heap.size, 1, none⟩ = some (.int .u8 0) := HBW.out.cell 1
        have k2 : W.cell? ⟨w2.heap.size, 2, none⟩ = some (.int .u8 0) := HBW.out.cell 2
        have k3 : W.cell? ⟨w2.heap.size, 3, none⟩ = some (.int .u8 0) := HBW.out.cell 3
        have k4 : W.cell? ⟨w2.heap.size, 4, none⟩ = some (.int .u8 0) := HBW.out.cell 4
        have k5 : W.cell? ⟨w2.heap.size, 5, none⟩ = some (.int .u8 0) := HBW.out.cell 5
        have k6 : W.cell? ⟨w2.heap.size, 6, none⟩ = some (.int .u8 0) := HBW.out.cell 6
        have k7 : W.cell? ⟨w2.heap.size, 7, none⟩ = some (.int .u8 0) := HBW.out.cell 7
        have hq := eq_z8 W
        go_wp2
        go_ret
        exact ⟨rfl, hbelW⟩
    · subst he
      obtain rfl : v = _ := HV9.out
      have HM := Lib.hid hM; clear hM HC
      have HZ := Lib.hid hz0; clear hz0
      have HBVL := Lib.hid (fun A B ca cb W hA hB => same_any V V A B ca cb hVlt hVlt (by rw [HVL.out]; decide) W hA hB)
      rw [HVL.out, show decide (V = V) = true from decide_eq_true rfl] at HBVL
      clear hVlt
      have hE := HZ.out
      have main : ∀ f' : Int, f = f' → f' = 0 ∨ f' = 1 ∨ f' = 3 → True := fun _ _ _ => trivial
      clear main
      rcases hf with rfl | rfl | rfl
      all_goals
        go_wp2_with fail
        refine (HBAD.out _).mono ?_
        rintro e W0 ⟨rfl, rfl⟩
        go_wp2_with fail
        refine wp_region_tree (.q 0 (.q 1 (.q 2 (.q 3 (.q 4 (.q 5 (.q 6 (.q 7 (.e [8] fun _ => .e [9] fun _ => .q 10 (.q 11 (.done))))))))))) (fun W => Below w9.heap.size w9 W) rfl (by kernel_rfl) (fun _ _ d _ _ h => by cases d <;> exact h) ?_
        have hw : Below w9.heap.size w9 w9.drew := below_drewN (Below.refl _ _) 1
        iterate 7 (refine t_q rfl rfl hw _ (fun W hW => by (go_simp; rfl)) ?_; go_simp)
        refine t_load_bs rfl rfl 22 (.tmp 7) rfl w.heap.size 0 rfl fill hw (fun W hW => hF9.below hW (by omega)) _ Tryd.underlying22 rfl (by rw [info_8u8, HFL.out]) ?_
        go_simp
        refine t_e rfl rfl fun K hK => ?_
        go_simp
        refine (HM.out _).mono ?_
        rintro e w10 ⟨⟨v10, rfl, hv10⟩, hb10⟩
        obtain ⟨g, cap, rfl, hg, hcap, hgl, hBg⟩ := hv10.form (by intro h; have := HVL.out; rw [h] at this; cases this)
        rw [HVL.out] at hcap ⊢
        have hw10 := hw.trans (hb10.mono hw.size)
        refine hK _ _ hw10 ?_
        clear hK K hb10 hv10
        go_simp
        refine t_e rfl rfl fun K hK => ?_
        go_simp
        refine (HBVL.out _ _ _ _ _ (fun _ => ⟨_, _, rfl, Bs.of_blk (hB9.below hw10 (by omega)) (fun j c hj => by rw [Nat.zero_add]; exact hj)⟩) (fun _ => ⟨_, _, rfl, hBg⟩)).mono ?_
        rintro e w11 ⟨rfl, n11, rfl⟩
        have hw11 := below_drewN hw10 n11
        refine hK _ _ hw11 ?_
        clear hK K
        go_simp
        iterate 2 (refine t_q rfl rfl hw11 _ (fun W hW => by (go_simp; rfl)) ?_; go_simp)
        refine t_done ?_
        have hbel := hbel9.trans (hw11.mono hbel9.size)
        go_wp2
        go_ret
        exact ⟨rfl, hbel⟩
  · have HG := Lib.hid hG
    have done : ∀ (w1 : World), Below w.heap.size w w1 → Calls Tryd.prog 8 #[] w1 fun e w' => e = .returned (.bool true) ∧ Below w.heap.size w w' := fun w1 h => (awake14_any w1).mono fun e w' h' => ⟨h'.1, h.trans (h'.2.mono h.size)⟩
    have HD := Lib.hid done; clear done
    by_cases h1 : p.size ≤ 100
    · have h2 : 100 < a.size := by omega
      clear hsz hfb
      go_enter Tryd.func3, Tryd.ntmps3
      go_wp2_with fail
      refine (HD.out _ ((Below.refl _ _).alloc (Nat.le_refl _) _)).mono ?_
      rintro e w1 ⟨rfl, hb1⟩
      go_wp2_with fail
      refine (HD.out _ hb1).mono ?_
      rintro e w2 ⟨rfl, hb2⟩
      go_wp2
      go_ret
      exact ⟨rfl, hb2⟩
    · have h2 : 100 < p.size := by omega
      clear hsz hfb
      go_enter Tryd.func3, Tryd.ntmps3
      go_wp2_with fail
      refine (HD.out _ ((Below.refl _ _).alloc (Nat.le_refl _) _)).mono ?_
      rintro e w1 ⟨rfl, hb1⟩
      go_wp2_with fail
      refine (HD.out _ hb1).mono ?_
      rintro e w2 ⟨rfl, hb2⟩
      go_wp2
      go_ret
      exact ⟨rfl, hb2⟩
end Go.Proofs.YtnkgglmfoimbhaaDoor
