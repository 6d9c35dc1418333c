/- The contracts of wrap.Fill, lockboxref11.Fill, Fits: of whatever number. lockboxlaw11.WrapKeys: the walk. -/
import Derived.Test.YtfkjkkjimdilcaaGreatDoorKRefK
import Derived.Test.YtfkjkkjimdilcaaGreatDoorKLaw11
/- The contracts of wrap.Fill, lockboxref11.Fill, Fits: of whatever number. -/
namespace Go.Proofs.YtfkjkkjimdilcaaGreatDoor
open Go Go.RowKit Pr

set_option maxHeartbeats 1000000 in
theorem fill_all (h : Hd) (n : Int) (w : World) :
    Calls Tryz.prog 13 #[.agg h.cells, .int .i64 n] w fun e w' => e = .returned (.int .i64 (fillW h.ver.toNat n)) ∧ Below w.heap.size w w' := by
  have HK := Lib.hid (fun W => kindOf_any h.ver.toNat W)
  have HS := Lib.hid (fun W => sizeOf_any h.ver.toNat W)
  have hb0 : Below w.heap.size w (w.alloc (.cells h.cells 24)) := (Below.refl _ _).alloc (Nat.le_refl _) _
  have hc : (w.alloc (.cells h.cells 24)).cell? ⟨w.heap.size, 0, none⟩ = some (.int .u8 (h.ver.toNat : Int)) := (Blk.new w 24 h.cells).cell 0
  have hF : fillW h.ver.toNat n = (if kindV h.ver.toNat = 0 ∨ n < 0 then (0 : Int) else ((sizeN (kindV h.ver.toNat) - (n.toNat % sizeN (kindV h.ver.toNat) + 2) % sizeN (kindV h.ver.toNat)) % sizeN (kindV h.ver.toNat) : Nat) : Int) := rfl
  generalize fillW h.ver.toNat n = R at *
  have hsz : sizeN (kindV h.ver.toNat) = 8 ∨ sizeN (kindV h.ver.toNat) = 16 := by unfold sizeN; split <;> omega
  generalize sizeN (kindV h.ver.toNat) = z at *
  generalize kindV h.ver.toNat = kd at *
  generalize h.ver.toNat = v at *
  generalize h.cells = cs at *
  by_cases hk : kd = 0
  · rw [if_pos (.inl hk)] at hF
    subst hF
    have t1 : (kd != 0) = false := by rw [bne_eq_false_iff_eq]; exact hk
    rw [t1] at HK
    clear hk t1
    go_enter Tryz.func13, Tryz.ntmps13
    go_wp2_with fail
    refine (HK.out _).mono ?_
    rintro e w1 ⟨rfl, rfl⟩
    go_wp2
    go_ret
    exact ⟨rfl, hb0⟩
  · have t1 : (kd != 0) = true := by rw [bne_iff_ne]; exact hk
    rw [t1] at HK
    by_cases hneg : n < 0
    · rw [if_pos (.inr hneg)] at hF
      subst hF
      clear hk t1
      go_enter Tryz.func13, Tryz.ntmps13
      go_wp2_with fail
      refine (HK.out _).mono ?_
      rintro e w1 ⟨rfl, rfl⟩
      go_wp2
      go_ret
      exact ⟨rfl, hb0⟩
    · rw [if_neg (by omega)] at hF
      obtain ⟨m, rfl⟩ : ∃ m : Nat, n = m := ⟨n.toNat, by omega⟩
      rw [Int.toNat_natCast] at hF
      obtain ⟨a, ha⟩ : ∃ a, m % z = a := ⟨_, rfl⟩
      obtain ⟨b, hb⟩ : ∃ b, (a + 2) % z = b := ⟨_, rfl⟩
      obtain ⟨r, hr⟩ : ∃ r, (z - b) % z = r := ⟨_, rfl⟩
      rw [ha, hb, hr] at hF
      have e1 : (m : Int) % (z : Int) = (a : Int) := by rcases hsz with rfl | rfl <;> omega
      have e2 : ((a : Int) + 2) % (z : Int) = (b : Int) := by rcases hsz with rfl | rfl <;> omega
      have e3 : ((z : Int) - (b : Int)) % (z : Int) = (r : Int) := by rcases hsz with rfl | rfl <;> omega
      have hz8 : 8 ≤ z := by omega
      have hz16 : z ≤ 16 := by omega
      have ha2 : a < z := by rw [← ha]; exact Nat.mod_lt _ (by omega)
      have hb2 : b < z := by rw [← hb]; exact Nat.mod_lt _ (by omega)
      have e4 : IntKind.i64.wrap ((a : Int) + 2) = (a : Int) + 2 := IntWalk.i64_in _ (by omega)
      have e5 : IntKind.i64.wrap ((z : Int) - (b : Int)) = (z : Int) - (b : Int) := IntWalk.i64_in _ (by omega)
      subst hF
      clear hk t1 ha hb hr hneg hsz
      go_enter Tryz.func13, Tryz.ntmps13
      go_wp2_with fail
      refine (HK.out _).mono ?_
      rintro e w1 ⟨rfl, rfl⟩
      go_wp2_with fail
      refine (HS.out _).mono ?_
      rintro e w1 ⟨rfl, rfl⟩
      go_wp2
      go_ret
      exact ⟨by show Ending.returned (.int .i64 (((z : Int) - (b : Int)) % (z : Int))) = _; rw [e3], hb0⟩


theorem fillR_step (a z k : Nat) (hz : z = 8 ∨ z = 16) (hk : k ≤ (z - (a + 2) % z) % z) (h : (a + 2 + k) % z ≠ 0) : k + 1 ≤ (z - (a + 2) % z) % z := by
  rcases hz with rfl | rfl <;> omega
theorem fillR_end (a z k : Nat) (hz : z = 8 ∨ z = 16) (hk : k ≤ (z - (a + 2) % z) % z) (h : (a + 2 + k) % z = 0) : k = (z - (a + 2) % z) % z := by
  rcases hz with rfl | rfl <;> omega
set_option maxHeartbeats 1000000 in
theorem refFill_any (v : Nat) (n : Int) (w : World) :
    Calls Tryz.prog 21 #[.int .u8 v, .int .i64 n] w fun e w' => e = .returned (.int .i64 (fillW v n)) ∧ w = w' := by
  have HK := Lib.hid (fun W => refKind_any v W)
  have hF : fillW v n = (if kindV v = 0 ∨ n < 0 then (0 : Int) else ((sizeN (kindV v) - (n.toNat % sizeN (kindV v) + 2) % sizeN (kindV v)) % sizeN (kindV v) : Nat) : Int) := rfl
  generalize fillW v n = R at *
  have hc := kindV_cases v
  have HS := Lib.hid (fun h W => refSize_any (kindV v) h W)
  have hsz : sizeN (kindV v) = 8 ∨ sizeN (kindV v) = 16 := by unfold sizeN; split <;> omega
  generalize sizeN (kindV v) = z at *
  generalize kindV v = kd at *
  by_cases hk : kd = 0
  · rw [if_pos (.inl hk)] at hF
    subst hF
    have t1 : ((kd : Int) == 0) = true := by rw [beq_iff_eq]; omega
    clear hk hc HS hsz
    go_enter Tryz.func21, Tryz.ntmps21
    go_wp2_with fail
    refine (HK.out _).mono ?_
    rintro e w1 ⟨rfl, rfl⟩
    go_wp2
    go_ret
    exact ⟨rfl, rfl⟩
  · have t1 : ((kd : Int) == 0) = false := by rw [beq_eq_false_iff_ne]; omega
    by_cases hneg : n < 0
    · rw [if_pos (.inr hneg)] at hF
      subst hF
      clear hk hc HS hsz
      go_enter Tryz.func21, Tryz.ntmps21
      go_wp2_with fail
      refine (HK.out _).mono ?_
      rintro e w1 ⟨rfl, rfl⟩
      go_wp2
      go_ret
      exact ⟨rfl, rfl⟩
    · rw [if_neg (by omega)] at hF
      obtain ⟨m, rfl⟩ : ∃ m : Nat, n = m := ⟨n.toNat, by omega⟩
      rw [Int.toNat_natCast] at hF
      have HS2 := Lib.hid (fun W => HS.out (by omega) W)
      obtain ⟨a, ha⟩ : ∃ a, m % z = a := ⟨_, rfl⟩
      rw [ha] at hF
      have hstep := fun k hk h => fillR_step a z k hsz hk h
      have hend := fun k hk h => fillR_end a z k hsz hk h
      obtain ⟨r, hr⟩ : ∃ r, (z - (a + 2) % z) % z = r := ⟨_, rfl⟩
      rw [hr] at hF hstep hend
      have hr16 : r < 16 := by rcases hsz with rfl | rfl <;> omega
      have e1 : (m : Int) % (z : Int) = (a : Int) := by rcases hsz with rfl | rfl <;> omega
      have hz8 : 8 ≤ z := by omega
      have hz16 : z ≤ 16 := by omega
      have ha2 : a < z := by rw [← ha]; exact Nat.mod_lt _ (by omega)
      subst hF
      have HST := Lib.hid hstep; clear hstep
      have HEN := Lib.hid hend; clear hend
      clear hk ha hr hneg hsz hc HS
      go_enter Tryz.func21, Tryz.ntmps21
      go_wp2_with fail
      refine (HK.out _).mono ?_
      rintro e w1 ⟨rfl, rfl⟩
      go_wp2_with fail
      refine (HK.out _).mono ?_
      rintro e w1 ⟨rfl, rfl⟩
      go_wp2_with fail
      refine (HS2.out _).mono ?_
      rintro e w1 ⟨rfl, rfl⟩
      go_wp2
      go_loop [6] (fun i => ∃ k : Nat, k ≤ r ∧ i = .int .i64 k) (fun i => 100 - (intOf i).toNat)
      case atStart => exact ⟨0, by omega, rfl⟩
      case round =>
        obtain ⟨k, hk, rfl⟩ := hrel
        by_cases hm : (a + 2 + k) % z = 0
        · have hkr := HEN.out k hk hm
          have t2 : (((a : Int) + 2 + (k : Int)) % (z : Int) != 0) = false := by
            have e : ((a : Int) + 2 + (k : Int)) % (z : Int) = (((a + 2 + k) % z : Nat) : Int) := by simp
            rw [bne_eq_false_iff_eq, e, hm]; rfl
          clear hm
          subst hkr
          go_wp2
          go_ret
          exact ⟨rfl, rfl⟩
        · have hkr := HST.out k hk hm
          have t2 : (((a : Int) + 2 + (k : Int)) % (z : Int) != 0) = true := by
            have e : ((a : Int) + 2 + (k : Int)) % (z : Int) = (((a + 2 + k) % z : Nat) : Int) := by simp
            rw [bne_iff_ne, e]; omega
          clear hm
          go_wp2
          go_round
          case rel => exact ⟨k + 1, by omega, by go_num⟩
          case measure => simp [intOf]; omega
end Go.Proofs.YtfkjkkjimdilcaaGreatDoor

/- lockboxlaw11.WrapKeys: the walk. -/
namespace Go.Proofs.YtfkjkkjimdilcaaGreatDoor
open Go Go.RowKit Pr

set_option maxHeartbeats 4000000 in
set_option maxRecDepth 100000 in
theorem keysL_ok (v : UInt8) (l : List Nat) (L : Nat) (hl : l.length = L) (hL : L ≤ 100) (A : Option Addr) (c : Nat) (hc : L ≤ c) (n : Int) (hk : KeyOk (kindV v.toNat) l) (w : World) (hA : At w A l) (hG : EtOk w) (hT : TabOk w) :
    Calls Tryz.prog 6 #[.int .u8 (v.toNat : Int), .slice A L c, .int .i64 n] w fun e w' => e = .returned (.bool true) ∧ Below w.heap.size w w' := by
  have HAW := Lib.hid (fun W (hb : Below w.heap.size w W) => awake11_any W (hG.below hb (Nat.le_refl _)) (fun W' hb' => (hT.below hb).below hb'))
  have HKY := Lib.hid (fun A c W hA => keys_ok v.toNat _ rfl l hk L hl A c W hA)
  have HRK := Lib.hid (fun A c hc W hA => refKeys_ok v.toNat _ rfl l hk L hl A c hc W hA)
  have HSA := Lib.hid (fun W => sample_any v W)
  have HFI := Lib.hid (fun W => fill_all (hS v) n W)
  have HRF := Lib.hid (fun W => refFill_any v.toNat n W)
  have hvv : (hS v).ver.toNat = v.toNat := rfl
  rw [hvv] at HFI
  have HCO := Lib.hid (fun W hG => code_any .nilIface .ok 0 W rfl hG)
  rw [show erCode .ok = 0 from rfl] at HCO
  obtain ⟨hX1, hX2⟩ := madeN_ok hk (p := 0) (by omega)
  obtain ⟨hY1, hY2⟩ := madeN_ok hk (p := 1) (by omega)
  rw [hl] at hX1 hY1
  have hpos := hk.pos
  rw [hl] at hpos
  generalize madeN (kindV v.toNat) l 0 = X at *
  generalize madeN (kindV v.toNat) l 1 = Y at *
  have hsx := fun A B ca cb W hA hB => same_any X X A B ca cb hX2 hX2 (by rw [hX1]; omega) W hA hB
  have hsy := fun A B ca cb W hA hB => same_any Y Y A B ca cb hY2 hY2 (by rw [hY1]; omega) W hA hB
  rw [hX1, decide_eq_true rfl] at hsx
  rw [hY1, decide_eq_true rfl] at hsy
  have HSX := Lib.hid hsx; clear hsx
  have HSY := Lib.hid hsy; clear hsy
  have HX1 := Lib.hid hX1; clear hX1
  have HY1 := Lib.hid hY1; clear hY1
  have HA := Lib.hid (fun W (hb : Below w.heap.size w W) => hA.below hb (Nat.le_refl _))
  have HG := Lib.hid (fun W (hb : Below w.heap.size w W) => hG.below hb (Nat.le_refl _))
  have hL1 : (L : Int) ≤ 100 := by omega
  generalize fillW v.toNat n = F at *
  have hcs : (hS v).cells.size = 6 := rfl
  generalize (hS v).cells = cs at *
  have HCS := Lib.hid hcs; clear hcs hvv hX2 hY2 hA hG hT hk hl
  generalize v.toNat = u at *
  go_enter Tryz.func6, Tryz.ntmps6
  go_wp2_with fail
  refine (HAW.out _ (Below.refl _ _)).mono ?_
  rintro e w1 ⟨rfl, hb1⟩
  go_wp2_with fail
  refine (HKY.out _ _ _ (HA.out _ hb1)).mono ?_
  rintro e w2 ⟨⟨va, vb, rfl, hva, hvb⟩, hb2⟩
  have hbel2 := hb1.trans (hb2.mono hb1.size)
  obtain ⟨ga, ca, rfl, hAa, -, -⟩ := hva.at_ HX1.out (by omega)
  obtain ⟨gb, cb, rfl, hAb, -, -⟩ := hvb.at_ HY1.out (by omega)
  clear hva hvb hb1 hb2
  go_wp2_with fail
  refine (HRK.out _ _ hc _ (HA.out _ hbel2)).mono ?_
  rintro e w3 ⟨⟨vc, vd, rfl, hvc, hvd⟩, hb3⟩
  have hbel3 := hbel2.trans (hb3.mono hbel2.size)
  obtain ⟨gc, cc, rfl, hAc, -, -⟩ := hvc.at_ HX1.out (by omega)
  obtain ⟨gd, cd, rfl, hAd, -, -⟩ := hvd.at_ HY1.out (by omega)
  have hAa := hAa.below hb3 (Nat.le_refl _)
  have hAb := hAb.below hb3 (Nat.le_refl _)
  clear hvc hvd hbel2 hb3
  go_wp2_with fail
  refine (HSA.out _).mono ?_
  rintro e w4 ⟨rfl, hb4⟩
  have hbel4 := hbel3.trans (hb4.mono hbel3.size)
  have hAa := hAa.below hb4 (Nat.le_refl _)
  have hAb := hAb.below hb4 (Nat.le_refl _)
  have hAc := hAc.below hb4 (Nat.le_refl _)
  have hAd := hAd.below hb4 (Nat.le_refl _)
  clear hbel3 hb4
  go_wp2_with fail
  refine (HFI.out _).mono ?_
  rintro e w5 ⟨rfl, hb5⟩
  have hbel5 := hbel4.trans (hb5.mono hbel4.size)
  have hAa := hAa.below hb5 (Nat.le_refl _)
  have hAb := hAb.below hb5 (Nat.le_refl _)
  have hAc := hAc.below hb5 (Nat.le_refl _)
  have hAd := hAd.below hb5 (Nat.le_refl _)
  clear hbel4 hb5
  go_wp2_with fail
  refine (HRF.out _).mono ?_
  rintro e w6 ⟨rfl, rfl⟩
  go_wp2_with fail
  refine (HCO.out _ (HG.out _ hbel5)).mono ?_
  rintro e w6 ⟨rfl, hb6⟩
  have hbel6 := hbel5.trans (hb6.mono hbel5.size)
  have hAa := hAa.below hb6 (Nat.le_refl _)
  have hAb := hAb.below hb6 (Nat.le_refl _)
  have hAc := hAc.below hb6 (Nat.le_refl _)
  have hAd := hAd.below hb6 (Nat.le_refl _)
  clear hbel5 hb6
  go_wp2_with fail
  refine (HSX.out _ _ _ _ _ hAa hAc).mono ?_
  rintro e w7 ⟨rfl, n7, rfl⟩
  go_wp2_with fail
  refine (HSY.out _ _ _ _ (w6.drewN n7) hAb hAd).mono ?_
  rintro e w8 ⟨rfl, n8, rfl⟩
  have hbf := below_drewN hbel6 (n7 + n8)
  go_wp2
  go_ret
  exact ⟨rfl, hbf⟩

set_option maxHeartbeats 4000000 in
set_option maxRecDepth 100000 in
theorem keysL_bad (v : UInt8) (l : List Nat) (L : Nat) (hl : l.length = L) (hL : L ≤ 100) (A : Option Addr) (c : Nat) (n : Int) (er : Er) (he : keysEr v.toNat L = er) (hne : er ≠ .ok) (w : World) (hG : EtOk w) (hT : TabOk w) :
    Calls Tryz.prog 6 #[.int .u8 (v.toNat : Int), .slice A L c, .int .i64 n] w fun e w' => e = .returned (.bool true) ∧ Below w.heap.size w w' := by
  have HAW := Lib.hid (fun W (hb : Below w.heap.size w W) => awake11_any W (hG.below hb (Nat.le_refl _)) (fun W' hb' => (hT.below hb).below hb'))
  have HKY := Lib.hid (fun A c W => keys_bad v.toNat L er he hne A c W)
  have HRK := Lib.hid (fun A c W => refKeys_bad v.toNat L (by omega) er he hne A c W)
  have HSA := Lib.hid (fun W => sample_any v W)
  have HFI := Lib.hid (fun W => fill_all (hS v) n W)
  have HRF := Lib.hid (fun W => refFill_any v.toNat n W)
  have hvv : (hS v).ver.toNat = v.toNat := rfl
  rw [hvv] at HFI
  have HCO := Lib.hid (fun u B W hE hG => code_any u er B W hE hG)
  have HSM := Lib.hid (fun W => same_any [] [] none none 0 0 (fun c h => by cases h) (fun c h => by cases h) (by decide) W (fun h => absurd rfl h) (fun h => absurd rfl h))
  have HG := Lib.hid (fun W (hb : Below w.heap.size w W) => hG.below hb (Nat.le_refl _))
  have hL1 : (L : Int) ≤ 100 := by omega
  generalize fillW v.toNat n = F at *
  have hcs : (hS v).cells.size = 6 := rfl
  generalize (hS v).cells = cs at *
  have HCS := Lib.hid hcs; clear hcs hvv hG hT he hne hl
  generalize v.toNat = u at *
  generalize erCode er = ec at *
  go_enter Tryz.func6, Tryz.ntmps6
  go_wp2_with fail
  refine (HAW.out _ (Below.refl _ _)).mono ?_
  rintro e w1 ⟨rfl, hb1⟩
  go_wp2_with fail
  refine (HKY.out _ _ _).mono ?_
  rintro e w2 ⟨⟨ue, rfl, hue⟩, hb2⟩
  have hbel2 := hb1.trans (hb2.mono hb1.size)
  clear hb1 hb2
  go_wp2_with fail
  refine (HRK.out _ _ _).mono ?_
  rintro e w3 ⟨rfl, rfl⟩
  go_wp2_with fail
  refine (HSA.out _).mono ?_
  rintro e w4 ⟨rfl, hb4⟩
  have hbel4 := hbel2.trans (hb4.mono hbel2.size)
  have hue := hue.below hb4 (Nat.le_refl _)
  clear hbel2 hb4
  go_wp2_with fail
  refine (HFI.out _).mono ?_
  rintro e w5 ⟨rfl, hb5⟩
  have hbel5 := hbel4.trans (hb5.mono hbel4.size)
  have hue := hue.below hb5 (Nat.le_refl _)
  clear hbel4 hb5
  go_wp2_with fail
  refine (HRF.out _).mono ?_
  rintro e w6 ⟨rfl, rfl⟩
  go_wp2_with fail
  refine (HCO.out _ _ _ hue (HG.out _ hbel5)).mono ?_
  rintro e w6 ⟨rfl, hb6⟩
  have hbel6 := hbel5.trans (hb6.mono hbel5.size)
  clear hbel5 hb6 hue
  go_wp2_with fail
  refine (HSM.out _).mono ?_
  rintro e w7 ⟨rfl, n7, rfl⟩
  go_wp2_with fail
  refine (HSM.out _).mono ?_
  rintro e w8 ⟨rfl, n8, rfl⟩
  have hbf := below_drewN hbel6 (n7 + n8)
  go_wp2
  go_ret
  exact ⟨rfl, hbf⟩

set_option maxHeartbeats 2000000 in
theorem keys11 (w : World) (v : UInt8) (l : List Nat) (gl : ∀ c ∈ l, c < 256) (A : Option Addr) (c : Nat) (hc : l.length ≤ c) (_hl : l.length ≤ 140737488351232) (hA : At w A l) (n : Int) (hG : EtOk w) (hT : TabOk w) :
    Calls Tryz.prog 6 #[.int .u8 (v.toNat : Int), .slice A l.length c, .int .i64 n] w fun e w' => e = .returned (.bool true) ∧ Below w.heap.size w w' := by
  by_cases h : l.length ≤ 100
  · by_cases he : keysEr v.toNat l.length = .ok
    · exact keysL_ok v l _ rfl h A c hc n (keysEr_ok gl he) w hA hG hT
    · exact keysL_bad v l _ rfl h A c n _ rfl he w hG hT
  · have HAW := Lib.hid (fun W (hb : Below w.heap.size w W) => awake11_any W (hG.below hb (Nat.le_refl _)) (fun W' hb' => (hT.below hb).below hb'))
    have h0 : 100 < (l.length : Int) := by omega
    generalize l.length = L0 at *
    generalize v.toNat = u at *
    clear hA h gl _hl hc hG hT
    go_enter Tryz.func6, Tryz.ntmps6
    go_wp2_with fail
    refine (HAW.out _ (Below.refl _ _)).mono ?_
    rintro e w1 ⟨rfl, hb1⟩
    go_wp2_with fail
    refine (HAW.out _ hb1).mono ?_
    rintro e w2 ⟨rfl, hb2⟩
    have hb := hb1.trans (hb2.mono hb1.size)
    go_wp2
    go_ret
    exact ⟨rfl, hb⟩
end Go.Proofs.YtfkjkkjimdilcaaGreatDoor
