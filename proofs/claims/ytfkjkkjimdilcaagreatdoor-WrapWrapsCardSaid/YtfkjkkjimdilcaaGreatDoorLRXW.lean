/- The contracts of wrap.ciphers, wrap.Wrap where something is wrong. lockboxlaw11.WrapWraps: the walk. -/
import Derived.Test.YtfkjkkjimdilcaaGreatDoorLRQ
import Derived.Test.YtfkjkkjimdilcaaGreatDoorLLaw11
/- The contracts of wrap.ciphers, wrap.Wrap where something is wrong. -/
namespace Go.Proofs.YtfkjkkjimdilcaaGreatDoor
open Go Go.RowKit Pr

set_option maxHeartbeats 2000000 in
theorem ciphers_bad (v n : Nat) (er : Er) (he : keysEr v n = er) (hne : er ≠ .ok) (hno : ∃ k, er = .no k) (A : Option Addr) (c : Nat) (w : World) :
    Calls Tryz.prog 32 #[.int .u8 v, .slice A n c] w fun e w' =>
     (∃ u, e = .returned (.tuple #[.pointer none, .pointer none, u]) ∧ ErIs w' w.heap.size u er) ∧ Below w.heap.size w w' := by
 have HK := Lib.hid (fun W => keys_bad v n er he hne A c W)
 obtain ⟨k, rfl⟩ := hno
 go_enter Tryz.func32, Tryz.ntmps32
 go_wp2_with fail
 refine (HK.out _).mono ?_
 rintro e w1 ⟨⟨u, rfl, hu⟩, hb1⟩
 obtain rfl : u = .iface 64 (.int .i64 (k : Int)) := hu
 go_wp2
 go_ret3
 exact ⟨⟨_, rfl, rfl⟩, hb1⟩
theorem keysEr_no {v n : Nat} {er : Er} (he : keysEr v n = er) (hne : er ≠ .ok) : ∃ k : Nat, er = .no k ∧ (k = 1 ∨ k = 2) := by
 unfold keysEr at he
 split at he
 ·
  exact ⟨1, he.symm, .inl rfl⟩
 ·
  split at he
  ·
   exact ⟨2, he.symm, .inr rfl⟩
  ·
   exact absurd he.symm hne

set_option maxHeartbeats 2000000 in
set_option maxRecDepth 100000 in
theorem wrap_head_bad (h : Hd) (hu : h.usage.size ≤ 140737488351232) (hs : h.serial.size ≤ 140737488351232) (k : Nat) (hr : rightEr h = .fa k 6) (A0 A1 A2 : Option Addr) (n kl fl c0 c1 c2 : Nat) (w : World) :
    Calls Tryz.prog 14 #[.slice A0 n c0, .agg h.cells, .slice A1 kl c1, .slice A2 fl c2] w fun e w' => (∃ u, e = .returned (.tuple #[.string ⟨#[]⟩, u]) ∧ ErIs w' w.heap.size u (.fa k 6)) ∧ Below w.heap.size w w' := by
 have HRI := Lib.hid (fun W => right_any h hu hs W)
 rw [hr] at HRI
 have hsz6 : h.cells.size = 6 := rfl
 generalize h.cells = cs at *
 have HS6 := Lib.hid hsz6; clear hsz6 hr
 go_enter Tryz.func14, Tryz.ntmps14
 have hBa := Blk.new w 24 cs
 have hba := (Below.refl w.heap.size w).alloc (Nat.le_refl _) (.cells cs 24)
 have hsa : (w.alloc (.cells cs 24)).heap.size = w.heap.size + 1 := by simp
 go_wp2_with (refine wpList_load_row rfl 24 (.tmp 5) rfl w.heap.size rfl 24 cs (0,0) _ hBa Tryz.underlying24 rfl (by rw [info_head, HS6.out]) ?_)
 refine (HRI.out _).mono ?_
 rintro e w1 ⟨⟨u, rfl, g, rfl, hg, hB⟩, hb1⟩
 have hbel1 := hba.trans (hb1.mono (by omega))
 have hE : ErIs w1 w.heap.size (.iface 74 (.pointer (some ⟨g, 0, none⟩))) (.fa k 6) := ⟨g, rfl, by omega, hB⟩
 have HE := Lib.hid hE
 clear hE hB hg hBa hba hsa hb1
 go_wp2
 go_ret2
 exact ⟨⟨_, rfl, HE.out⟩, hbel1⟩

set_option maxHeartbeats 2000000 in
set_option maxRecDepth 100000 in
theorem wrap_keys_bad (h : Hd) (hr : rightEr h = .ok) (A0 A1 A2 : Option Addr) (n kl fl c0 c1 c2 : Nat) (er : Er) (he : keysEr h.ver.toNat n = er) (hne : er ≠ .ok) (w : World) :
    Calls Tryz.prog 14 #[.slice A0 n c0, .agg h.cells, .slice A1 kl c1, .slice A2 fl c2] w fun e w' => (∃ u, e = .returned (.tuple #[.string ⟨#[]⟩, u]) ∧ ErIs w' w.heap.size u er) ∧ Below w.heap.size w w' := by
 obtain ⟨-, -, -, -, hu2, hs2⟩ := right_ok hr
 have HRI := Lib.hid (fun W => right_any h (by omega) (by omega) W)
 rw [hr] at HRI
 obtain ⟨k, hk, -⟩ := keysEr_no he hne
 have HCI := Lib.hid (fun W => ciphers_bad h.ver.toNat n er he hne ⟨k, hk⟩ A0 c0 W)
 have hcv : ∀ W, Blk W w.heap.size 24 h.cells → W.cell? ⟨w.heap.size, 0, none⟩ = some (.int .u8 (h.ver.toNat : Int)) := fun W hW => hW.cell 0
 have hsz6 : h.cells.size = 6 := rfl
 generalize h.cells = cs at *
 generalize h.ver.toNat = v at *
 have HS6 := Lib.hid hsz6; clear hsz6 hr he hne hu2 hs2
 have HCV := Lib.hid hcv; clear hcv
 subst hk
 go_enter Tryz.func14, Tryz.ntmps14
 have hBa := Blk.new w 24 cs
 have hba := (Below.refl w.heap.size w).alloc (Nat.le_refl _) (.cells cs 24)
 have hsa : (w.alloc (.cells cs 24)).heap.size = w.heap.size + 1 := by simp
 go_wp2_with (refine wpList_load_row rfl 24 (.tmp 5) rfl w.heap.size rfl 24 cs (0,0) _ hBa Tryz.underlying24 rfl (by rw [info_head, HS6.out]) ?_)
 refine (HRI.out _).mono ?_
 rintro e w1 ⟨⟨u, rfl, hu⟩, hb1⟩
 obtain rfl : u = _ := hu
 have hB1 := hBa.below hb1 (by omega)
 have hbel1 := hba.trans (hb1.mono (by omega))
 have hcell1 := HCV.out _ hB1
 clear hb1 hBa hba hsa
 go_wp2_with fail
 refine (HCI.out _).mono ?_
 rintro e w2 ⟨⟨u, rfl, hu⟩, hb2⟩
 obtain rfl : u = .iface 64 (.int .i64 (k : Int)) := hu
 have hbel2 := hbel1.trans (hb2.mono hbel1.size)
 clear hcell1 hB1 hb2
 go_wp2
 go_ret2
 exact ⟨⟨_, rfl, rfl⟩, hbel2⟩

set_option maxHeartbeats 2000000 in
set_option maxRecDepth 100000 in
theorem wrap_size_bad (h : Hd) (hr : rightEr h = .ok) (wk : List Nat) (n : Nat) (hk : KeyOk (kindV h.ver.toNat) wk) (hn : wk.length = n) (A0 A1 A2 : Option Addr) (kl fl c0 c1 c2 : Nat) (hbad : fitsW h.alg.toNat kl = false ∨ fillW h.ver.toNat (kl : Int) ≠ (fl : Int)) (w : World) (hA0 : At w A0 wk) :
    Calls Tryz.prog 14 #[.slice A0 n c0, .agg h.cells, .slice A1 kl c1, .slice A2 fl c2] w fun e w' => e = .returned (.tuple #[.string ⟨#[]⟩, .iface 64 (.int .i64 2)]) ∧ Below w.heap.size w w' := by
 obtain ⟨-, -, -, -, hu2, hs2⟩ := right_ok hr
 have HRI := Lib.hid (fun W => right_any h (by omega) (by omega) W)
 rw [hr] at HRI
 have HCI := Lib.hid (fun W hA => ciphers_ok h.ver.toNat (kindV h.ver.toNat) rfl wk hk n hn A0 c0 W hA)
 have HFI := Lib.hid (fun W => fitsW_any h.alg.toNat kl W)
 have HFL := Lib.hid (fun W => fill_all h (kl : Int) W)
 have hcv : ∀ W, Blk W w.heap.size 24 h.cells → W.cell? ⟨w.heap.size, 0, none⟩ = some (.int .u8 (h.ver.toNat : Int)) ∧ W.cell? ⟨w.heap.size, 2, none⟩ = some (.int .u8 (h.alg.toNat : Int)) := fun W hW => ⟨hW.cell 0, hW.cell 2⟩
 have hsz6 : h.cells.size = 6 := rfl
 generalize h.cells = cs at *
 generalize fillW h.ver.toNat (kl : Int) = F at *
 generalize madeN (kindV h.ver.toNat) wk 0 = R0 at *
 generalize madeN (kindV h.ver.toNat) wk 1 = R1 at *
 generalize kindV h.ver.toNat = kind at *
 generalize h.ver.toNat = v at *
 generalize h.alg.toNat = al at *
 have HA0 := Lib.hid (fun W (hb : Below w.heap.size w W) => hA0.below hb (Nat.le_refl _))
 have HS6 := Lib.hid hsz6; clear hsz6 hr hu2 hs2 hk hn hA0
 have HCV := Lib.hid hcv; clear hcv
 have hFb : fitsW al kl = true → (((fl : Int) != F) = true) := fun hf => by
  rw [bne_iff_ne]
  rcases hbad with hb | hb
  ·
   rw [hf] at hb; cases hb
  ·
   exact fun e => hb e.symm
 clear hbad
 have hBa := Blk.new w 24 cs
 have hba := (Below.refl w.heap.size w).alloc (Nat.le_refl _) (.cells cs 24)
 have hsa : (w.alloc (.cells cs 24)).heap.size = w.heap.size + 1 := by simp
 cases hfit : fitsW al kl
 ·
  rw [hfit] at HFI
  clear hFb hfit
  go_enter Tryz.func14, Tryz.ntmps14
  go_wp2_with (refine wpList_load_row rfl 24 (.tmp 5) rfl w.heap.size rfl 24 cs (0,0) _ hBa Tryz.underlying24 rfl (by rw [info_head, HS6.out]) ?_)
  refine (HRI.out _).mono ?_
  rintro e w1 ⟨⟨u, rfl, hu⟩, hb1⟩
  obtain rfl : u = _ := hu
  have hB1 := hBa.below hb1 (by omega)
  have hbel1 := hba.trans (hb1.mono (by omega))
  have hcell1 := (HCV.out _ hB1).1
  clear hb1 hBa hba hsa
  go_wp2_with fail
  refine (HCI.out _ (HA0.out _ hbel1)).mono ?_
  rintro e w2 ⟨⟨g1, g2, rfl, -, -⟩, hb2⟩
  have hB2 := hB1.below hb2 hB1.lt
  have hbel2 := hbel1.trans (hb2.mono hbel1.size)
  have hcell2 := (HCV.out _ hB2).2
  clear hb2 hB1 hbel1 hcell1
  go_wp2_with fail
  refine (HFI.out _).mono ?_
  rintro e w3 ⟨rfl, rfl⟩
  go_wp2
  go_ret2
  exact ⟨rfl, hbel2⟩
 ·
  rw [hfit] at HFI
  have t1 := hFb hfit
  clear hFb hfit
  go_enter Tryz.func14, Tryz.ntmps14
  go_wp2_with (refine wpList_load_row rfl 24 (.tmp 5) rfl w.heap.size rfl 24 cs (0,0) _ hBa Tryz.underlying24 rfl (by rw [info_head, HS6.out]) ?_)
  refine (HRI.out _).mono ?_
  rintro e w1 ⟨⟨u, rfl, hu⟩, hb1⟩
  obtain rfl : u = _ := hu
  have hB1 := hBa.below hb1 (by omega)
  have hbel1 := hba.trans (hb1.mono (by omega))
  have hcell1 := (HCV.out _ hB1).1
  clear hb1 hBa hba hsa
  go_wp2_with fail
  refine (HCI.out _ (HA0.out _ hbel1)).mono ?_
  rintro e w2 ⟨⟨g1, g2, rfl, -, -⟩, hb2⟩
  have hB2 := hB1.below hb2 hB1.lt
  have hbel2 := hbel1.trans (hb2.mono hbel1.size)
  have hcell2 := (HCV.out _ hB2).2
  clear hb2 hB1 hbel1 hcell1
  go_wp2_with fail
  refine (HFI.out _).mono ?_
  rintro e w3 ⟨rfl, rfl⟩
  go_wp2_with (refine wpList_load_rowG rfl 24 (.tmp 5) rfl w.heap.size rfl 24 cs hB2 _ Tryz.underlying24 rfl (by rw [info_head, HS6.out]) ?_)
  refine (HFL.out _).mono ?_
  rintro e w3 ⟨rfl, hb3⟩
  have hbel3 := hbel2.trans (hb3.mono hbel2.size)
  clear hcell2 hB2 hb3
  go_wp2
  go_ret2
  exact ⟨rfl, hbel3⟩
end Go.Proofs.YtfkjkkjimdilcaaGreatDoor

/- lockboxlaw11.WrapWraps: the walk. -/
namespace Go.Proofs.YtfkjkkjimdilcaaGreatDoor
open Go Go.RowKit Pr

theorem hd_cells (h : Hd) (g : Nat) (W : World) (hW : Blk W g 24 h.cells) : W.cell? ⟨g, 0, none⟩ = some (.int .u8 (h.ver.toNat : Int)) ∧ W.cell? ⟨g, 1, none⟩ = some (.string h.usage) ∧ W.cell? ⟨g, 2, none⟩ = some (.int .u8 (h.alg.toNat : Int)) ∧ W.cell? ⟨g, 4, none⟩ = some (.string h.serial) :=
 ⟨hW.cell 0, hW.cell 1, hW.cell 2, hW.cell 4⟩

set_option maxHeartbeats 4000000 in
set_option maxRecDepth 100000 in
theorem wrapsL_head (h : Hd) (hu : h.usage.size ≤ 20) (hs : h.serial.size ≤ 20) (wk key fill : List Nat) (n kl fl : Nat) (hn : wk.length = n) (hkl : key.length = kl) (hfl : fill.length = fl) (_gw : Byt wk) (_gk : Byt key) (_gf : Byt fill) (hn1 : n ≤ 100) (hk1 : kl ≤ 100) (hf1 : fl ≤ 100) (A0 A1 A2 : Option Addr) (c0 c1 c2 : Nat) (_hc0 : n ≤ c0) (w : World) (hA0 : At w A0 wk) (hA1 : At w A1 key) (hA2 : At w A2 fill) (hG : EtOk w) (hT : TabOk w) (k : Nat) (hr : rightEr h = .fa k 6) :
    Calls Tryz.prog 7 #[.slice A0 n c0, .agg h.cells, .slice A1 kl c1, .slice A2 fl c2] w fun e w' => e = .returned (.bool true) ∧ Below w.heap.size w w' := by
 have HAW := Lib.hid (fun W (hb : Below w.heap.size w W) => awake11_any W (hG.below hb (Nat.le_refl _)) (fun W' hb' => (hT.below hb).below hb'))
 have HWR := Lib.hid (fun W => wrap_head_bad h (by omega) (by omega) k hr A0 A1 A2 n kl fl c0 c1 c2 W)
 have HCO := Lib.hid (fun u B W hE hG => code_any u (.fa k 6) B W hE hG)
 have HAT := Lib.hid (fun u B W hE hG => at_any u (.fa k 6) B W hE hG)
 rw [show erCode (.fa k 6) = 6 from rfl] at HCO
 rw [show erAt (.fa k 6) = (k : Int) from rfl] at HAT

 have HRW := Lib.hid (fun W => refWrong_any h (by omega) (by omega) W)
 rw [hr, show erAt (.fa k 6) = (k : Int) from rfl] at HRW
 have HG := Lib.hid (fun W (hb : Below w.heap.size w W) => hG.below hb (Nat.le_refl _))
 have HA0 := Lib.hid (fun W (hb : Below w.heap.size w W) => hA0.below hb (Nat.le_refl _))
 have HA1 := Lib.hid (fun W (hb : Below w.heap.size w W) => hA1.below hb (Nat.le_refl _))
 have HA2 := Lib.hid (fun W (hb : Below w.heap.size w W) => hA2.below hb (Nat.le_refl _))
 have hsz6 : h.cells.size = 6 := rfl
 have HCV := Lib.hid (fun W hW => hd_cells h w.heap.size W hW)
 generalize h.cells = cs at *
 have HS6 := Lib.hid hsz6; clear hsz6
 have i1 : (n : Int) ≤ 100 := by omega
 have i2 : (kl : Int) ≤ 100 := by omega
 have i3 : (fl : Int) ≤ 100 := by omega
 have i4 : (h.usage.size : Int) ≤ 20 := by omega
 have i5 : (h.serial.size : Int) ≤ 20 := by omega
 generalize h.usage = us at *
 generalize h.serial = se at *
 generalize h.ver.toNat = v at *
 generalize h.alg.toNat = al at *
 clear hG hT hA0 hA1 hA2 hn hkl hfl _gw _gk _gf hr
 go_enter Tryz.func7, Tryz.ntmps7
 have hBa := Blk.new w 24 cs
 have hba := (Below.refl w.heap.size w).alloc (Nat.le_refl _) (.cells cs 24)
 have hsa : (w.alloc (.cells cs 24)).heap.size = w.heap.size + 1 := by simp
 go_wp2_with fail
 refine (HAW.out _ hba).mono ?_
 rintro e w1 ⟨rfl, hb1⟩
 have hB1 := hBa.below hb1 (by omega)
 have hbel1 := hba.trans (hb1.mono (by omega))
 obtain ⟨-, hx1, -, hx4⟩ := HCV.out _ hB1
 clear hBa hba hsa hb1
 go_wp2_with (refine wpList_load_row rfl 24 (.tmp 5) rfl w.heap.size rfl 24 cs (0,0) _ hB1 Tryz.underlying24 rfl (by rw [info_head, HS6.out]) ?_)
 refine (HWR.out _).mono ?_
 rintro e w2 ⟨⟨u, rfl, hu⟩, hb2⟩
 have hB2 := hB1.below hb2 hB1.lt
 have hbel2 := hbel1.trans (hb2.mono hbel1.size)
 clear hB1 hx1 hx4 hb2 hbel1
 go_wp2_with (refine wpList_load_row rfl 24 (.tmp 5) rfl w.heap.size rfl 24 cs (0,0) _ hB2 Tryz.underlying24 rfl (by rw [info_head, HS6.out]) ?_)
 refine (HRW.out _).mono ?_
 rintro e w3 ⟨rfl, hb3⟩
 have hB3 := hB2.below hb3 hB2.lt
 have hbel3 := hbel2.trans (hb3.mono hbel2.size)
 have hu3 := hu.below hb3 (Nat.le_refl _)
 have hk0 : (0 : Int) ≤ (k : Int) := by omega
 clear hu hb3 hbel2 hB2
 go_wp2_with fail
 refine (HCO.out _ _ _ hu3 (HG.out _ hbel3)).mono ?_
 rintro e w4 ⟨rfl, hb4⟩
 have hu4 := hu3.below hb4 (Nat.le_refl _)
 have hbel4 := hbel3.trans (hb4.mono hbel3.size)
 clear hu3 hb4 hbel3 hB3
 go_wp2_with fail
 refine (HAT.out _ _ _ hu4 (HG.out _ hbel4)).mono ?_
 rintro e w5 ⟨rfl, hb5⟩
 have hbel5 := hbel4.trans (hb5.mono hbel4.size)
 clear hu4 hb5 hbel4
 go_wp2
 go_ret
 exact ⟨rfl, hbel5⟩

set_option maxHeartbeats 4000000 in
set_option maxRecDepth 100000 in
theorem wrapsL_keys (h : Hd) (hu : h.usage.size ≤ 20) (hs : h.serial.size ≤ 20) (wk key fill : List Nat) (n kl fl : Nat) (hn : wk.length = n) (hkl : key.length = kl) (hfl : fill.length = fl) (_gw : Byt wk) (_gk : Byt key) (_gf : Byt fill) (hn1 : n ≤ 100) (hk1 : kl ≤ 100) (hf1 : fl ≤ 100) (A0 A1 A2 : Option Addr) (c0 c1 c2 : Nat) (_hc0 : n ≤ c0) (w : World) (hA0 : At w A0 wk) (hA1 : At w A1 key) (hA2 : At w A2 fill) (hG : EtOk w) (hT : TabOk w) (hr : rightEr h = .ok) (er : Er) (he : keysEr h.ver.toNat n = er) (hne : er ≠ .ok) :
    Calls Tryz.prog 7 #[.slice A0 n c0, .agg h.cells, .slice A1 kl c1, .slice A2 fl c2] w fun e w' => e = .returned (.bool true) ∧ Below w.heap.size w w' := by
 have HAW := Lib.hid (fun W (hb : Below w.heap.size w W) => awake11_any W (hG.below hb (Nat.le_refl _)) (fun W' hb' => (hT.below hb).below hb'))
 obtain ⟨kk, hkk, hk12⟩ := keysEr_no he hne
 have HWR := Lib.hid (fun W => wrap_keys_bad h hr A0 A1 A2 n kl fl c0 c1 c2 er he hne W)
 have HRK := Lib.hid (fun A c W => refKeys_bad h.ver.toNat n (by omega) er he hne A c W)
 have HCO := Lib.hid (fun u B W hE hG => code_any u er B W hE hG)
 rw [hkk, show erCode (.no kk) = (kk : Int) from rfl] at HCO HRK
 rw [hkk] at HWR

 have HRW := Lib.hid (fun W => refWrong_any h (by omega) (by omega) W)
 rw [hr, show erAt .ok = -1 from rfl] at HRW
 have HG := Lib.hid (fun W (hb : Below w.heap.size w W) => hG.below hb (Nat.le_refl _))
 have HA0 := Lib.hid (fun W (hb : Below w.heap.size w W) => hA0.below hb (Nat.le_refl _))
 have HA1 := Lib.hid (fun W (hb : Below w.heap.size w W) => hA1.below hb (Nat.le_refl _))
 have HA2 := Lib.hid (fun W (hb : Below w.heap.size w W) => hA2.below hb (Nat.le_refl _))
 have hsz6 : h.cells.size = 6 := rfl
 have HCV := Lib.hid (fun W hW => hd_cells h w.heap.size W hW)
 generalize h.cells = cs at *
 have HS6 := Lib.hid hsz6; clear hsz6
 have i1 : (n : Int) ≤ 100 := by omega
 have i2 : (kl : Int) ≤ 100 := by omega
 have i3 : (fl : Int) ≤ 100 := by omega
 have i4 : (h.usage.size : Int) ≤ 20 := by omega
 have i5 : (h.serial.size : Int) ≤ 20 := by omega
 generalize h.usage = us at *
 generalize h.serial = se at *
 generalize h.ver.toNat = v at *
 generalize h.alg.toNat = al at *
 clear hG hT hA0 hA1 hA2 hn hkl hfl _gw _gk _gf hr he hne hkk
 go_enter Tryz.func7, Tryz.ntmps7
 have hBa := Blk.new w 24 cs
 have hba := (Below.refl w.heap.size w).alloc (Nat.le_refl _) (.cells cs 24)
 have hsa : (w.alloc (.cells cs 24)).heap.size = w.heap.size + 1 := by simp
 go_wp2_with fail
 refine (HAW.out _ hba).mono ?_
 rintro e w1 ⟨rfl, hb1⟩
 have hB1 := hBa.below hb1 (by omega)
 have hbel1 := hba.trans (hb1.mono (by omega))
 obtain ⟨-, hx1, -, hx4⟩ := HCV.out _ hB1
 clear hBa hba hsa hb1
 go_wp2_with (refine wpList_load_row rfl 24 (.tmp 5) rfl w.heap.size rfl 24 cs (0,0) _ hB1 Tryz.underlying24 rfl (by rw [info_head, HS6.out]) ?_)
 refine (HWR.out _).mono ?_
 rintro e w2 ⟨⟨u, rfl, hu⟩, hb2⟩
 have hB2 := hB1.below hb2 hB1.lt
 have hbel2 := hbel1.trans (hb2.mono hbel1.size)
 clear hB1 hx1 hx4 hb2 hbel1
 go_wp2_with (refine wpList_load_row rfl 24 (.tmp 5) rfl w.heap.size rfl 24 cs (0,0) _ hB2 Tryz.underlying24 rfl (by rw [info_head, HS6.out]) ?_)
 refine (HRW.out _).mono ?_
 rintro e w3 ⟨rfl, hb3⟩
 have hB3 := hB2.below hb3 hB2.lt
 have hbel3 := hbel2.trans (hb3.mono hbel2.size)
 have hu3 := hu.below hb3 (Nat.le_refl _)
 have hk0 : (((kk : Nat) : Int) != 0) = true := by rw [bne_iff_ne]; omega
 obtain ⟨hx0, -, -, -⟩ := HCV.out _ hB3
 clear hu hb3 hbel2 hB2 hk12
 go_wp2_with fail
 refine (HRK.out _ _ _).mono ?_
 rintro e w4 ⟨rfl, rfl⟩
 go_wp2_with fail
 refine (HCO.out _ _ _ hu3 (HG.out _ hbel3)).mono ?_
 rintro e w4 ⟨rfl, hb4⟩
 have hbel4 := hbel3.trans (hb4.mono hbel3.size)
 clear hu3 hb4 hbel3 hB3 hx0
 go_wp2
 go_ret
 exact ⟨rfl, hbel4⟩

set_option maxHeartbeats 4000000 in
set_option maxRecDepth 100000 in
theorem wrapsL_sizea (h : Hd) (hu : h.usage.size ≤ 20) (hs : h.serial.size ≤ 20) (wk key fill : List Nat) (n kl fl : Nat) (hn : wk.length = n) (hkl : key.length = kl) (hfl : fill.length = fl) (_gw : Byt wk) (_gk : Byt key) (_gf : Byt fill) (hn1 : n ≤ 100) (hk1 : kl ≤ 100) (hf1 : fl ≤ 100) (A0 A1 A2 : Option Addr) (c0 c1 c2 : Nat) (_hc0 : n ≤ c0) (w : World) (hA0 : At w A0 wk) (hA1 : At w A1 key) (hA2 : At w A2 fill) (hG : EtOk w) (hT : TabOk w) (hr : rightEr h = .ok) (hk : KeyOk (kindV h.ver.toNat) wk) (hbad : fitsW h.alg.toNat kl = false) :
    Calls Tryz.prog 7 #[.slice A0 n c0, .agg h.cells, .slice A1 kl c1, .slice A2 fl c2] w fun e w' => e = .returned (.bool true) ∧ Below w.heap.size w w' := by
 have HAW := Lib.hid (fun W (hb : Below w.heap.size w W) => awake11_any W (hG.below hb (Nat.le_refl _)) (fun W' hb' => (hT.below hb).below hb'))
 have HWR := Lib.hid (fun W hA => wrap_size_bad h hr wk n hk hn A0 A1 A2 kl fl c0 c1 c2 (.inl hbad) W hA)
 have HRK := Lib.hid (fun A c hc W hA => refKeys_ok h.ver.toNat _ rfl wk hk n hn A c hc W hA)
 have HRF := Lib.hid (fun W => refFits_any h.alg.toNat kl W)
 rw [hbad] at HRF
 have HFI := Lib.hid (fun W => refFill_any h.ver.toNat (kl : Int) W)
 have HCO := Lib.hid (fun W hG => code_any (.iface 64 (.int .i64 2)) (.no 2) 0 W rfl hG)
 rw [show erCode (.no 2) = 2 from rfl] at HCO
 skip
 generalize fillW h.ver.toNat (kl : Int) = F at *
 generalize madeN (kindV h.ver.toNat) wk 0 = R0 at *
 generalize madeN (kindV h.ver.toNat) wk 1 = R1 at *

 have HRW := Lib.hid (fun W => refWrong_any h (by omega) (by omega) W)
 rw [hr, show erAt .ok = -1 from rfl] at HRW
 have HG := Lib.hid (fun W (hb : Below w.heap.size w W) => hG.below hb (Nat.le_refl _))
 have HA0 := Lib.hid (fun W (hb : Below w.heap.size w W) => hA0.below hb (Nat.le_refl _))
 have HA1 := Lib.hid (fun W (hb : Below w.heap.size w W) => hA1.below hb (Nat.le_refl _))
 have HA2 := Lib.hid (fun W (hb : Below w.heap.size w W) => hA2.below hb (Nat.le_refl _))
 have hsz6 : h.cells.size = 6 := rfl
 have HCV := Lib.hid (fun W hW => hd_cells h w.heap.size W hW)
 generalize h.cells = cs at *
 have HS6 := Lib.hid hsz6; clear hsz6
 have i1 : (n : Int) ≤ 100 := by omega
 have i2 : (kl : Int) ≤ 100 := by omega
 have i3 : (fl : Int) ≤ 100 := by omega
 have i4 : (h.usage.size : Int) ≤ 20 := by omega
 have i5 : (h.serial.size : Int) ≤ 20 := by omega
 generalize h.usage = us at *
 generalize h.serial = se at *
 generalize h.ver.toNat = v at *
 generalize h.alg.toNat = al at *
 clear hG hT hA0 hA1 hA2 hn hkl hfl _gw _gk _gf hr hk hbad
 go_enter Tryz.func7, Tryz.ntmps7
 have hBa := Blk.new w 24 cs
 have hba := (Below.refl w.heap.size w).alloc (Nat.le_refl _) (.cells cs 24)
 have hsa : (w.alloc (.cells cs 24)).heap.size = w.heap.size + 1 := by simp
 go_wp2_with fail
 refine (HAW.out _ hba).mono ?_
 rintro e w1 ⟨rfl, hb1⟩
 have hB1 := hBa.below hb1 (by omega)
 have hbel1 := hba.trans (hb1.mono (by omega))
 obtain ⟨-, hx1, -, hx4⟩ := HCV.out _ hB1
 clear hBa hba hsa hb1
 go_wp2_with (refine wpList_load_row rfl 24 (.tmp 5) rfl w.heap.size rfl 24 cs (0,0) _ hB1 Tryz.underlying24 rfl (by rw [info_head, HS6.out]) ?_)
 refine (HWR.out _ (HA0.out _ hbel1)).mono ?_
 rintro e w2 ⟨rfl, hb2⟩
 have hB2 := hB1.below hb2 hB1.lt
 have hbel2 := hbel1.trans (hb2.mono hbel1.size)
 clear hB1 hx1 hx4 hb2 hbel1
 go_wp2_with (refine wpList_load_row rfl 24 (.tmp 5) rfl w.heap.size rfl 24 cs (0,0) _ hB2 Tryz.underlying24 rfl (by rw [info_head, HS6.out]) ?_)
 refine (HRW.out _).mono ?_
 rintro e w3 ⟨rfl, hb3⟩
 have hB3 := hB2.below hb3 hB2.lt
 have hbel3 := hbel2.trans (hb3.mono hbel2.size)
 obtain ⟨hx0, -, hx2, -⟩ := HCV.out _ hB3
 clear hb3 hbel2 hB2
 go_wp2_with fail
 refine (HRK.out _ _ _hc0 _ (HA0.out _ hbel3)).mono ?_
 rintro e w4 ⟨⟨va, vb, rfl, hva, hvb⟩, hb4⟩
 have hB4 := hB3.below hb4 hB3.lt
 have hbel4 := hbel3.trans (hb4.mono hbel3.size)
 obtain ⟨hx0, -, hx2, -⟩ := HCV.out _ hB4
 clear hva hvb hb4 hbel3 hB3
 go_wp2_with fail
 refine (HRF.out _).mono ?_
 rintro e w5 ⟨rfl, rfl⟩
 go_wp2_with fail
 refine (HCO.out _ (HG.out _ hbel4)).mono ?_
 rintro e w5 ⟨rfl, hb5⟩
 have hbel5 := hbel4.trans (hb5.mono hbel4.size)
 clear hb5 hbel4 hB4 hx0 hx2
 go_wp2
 go_ret
 exact ⟨rfl, hbel5⟩

set_option maxHeartbeats 4000000 in
set_option maxRecDepth 100000 in
theorem wrapsL_sizeb (h : Hd) (hu : h.usage.size ≤ 20) (hs : h.serial.size ≤ 20) (wk key fill : List Nat) (n kl fl : Nat) (hn : wk.length = n) (hkl : key.length = kl) (hfl : fill.length = fl) (_gw : Byt wk) (_gk : Byt key) (_gf : Byt fill) (hn1 : n ≤ 100) (hk1 : kl ≤ 100) (hf1 : fl ≤ 100) (A0 A1 A2 : Option Addr) (c0 c1 c2 : Nat) (_hc0 : n ≤ c0) (w : World) (hA0 : At w A0 wk) (hA1 : At w A1 key) (hA2 : At w A2 fill) (hG : EtOk w) (hT : TabOk w) (hr : rightEr h = .ok) (hk : KeyOk (kindV h.ver.toNat) wk) (hfit : fitsW h.alg.toNat kl = true) (hbad : fillW h.ver.toNat (kl : Int) ≠ (fl : Int)) :
    Calls Tryz.prog 7 #[.slice A0 n c0, .agg h.cells, .slice A1 kl c1, .slice A2 fl c2] w fun e w' => e = .returned (.bool true) ∧ Below w.heap.size w w' := by
 have HAW := Lib.hid (fun W (hb : Below w.heap.size w W) => awake11_any W (hG.below hb (Nat.le_refl _)) (fun W' hb' => (hT.below hb).below hb'))
 have HWR := Lib.hid (fun W hA => wrap_size_bad h hr wk n hk hn A0 A1 A2 kl fl c0 c1 c2 (.inr hbad) W hA)
 have HRK := Lib.hid (fun A c hc W hA => refKeys_ok h.ver.toNat _ rfl wk hk n hn A c hc W hA)
 have HRF := Lib.hid (fun W => refFits_any h.alg.toNat kl W)
 rw [hfit] at HRF
 have HFI := Lib.hid (fun W => refFill_any h.ver.toNat (kl : Int) W)
 have HCO := Lib.hid (fun W hG => code_any (.iface 64 (.int .i64 2)) (.no 2) 0 W rfl hG)
 rw [show erCode (.no 2) = 2 from rfl] at HCO
 have hFb : (((fl : Int) != fillW h.ver.toNat (kl : Int)) = true) := by rw [bne_iff_ne]; exact fun e => hbad e.symm
 generalize fillW h.ver.toNat (kl : Int) = F at *
 generalize madeN (kindV h.ver.toNat) wk 0 = R0 at *
 generalize madeN (kindV h.ver.toNat) wk 1 = R1 at *

 have HRW := Lib.hid (fun W => refWrong_any h (by omega) (by omega) W)
 rw [hr, show erAt .ok = -1 from rfl] at HRW
 have HG := Lib.hid (fun W (hb : Below w.heap.size w W) => hG.below hb (Nat.le_refl _))
 have HA0 := Lib.hid (fun W (hb : Below w.heap.size w W) => hA0.below hb (Nat.le_refl _))
 have HA1 := Lib.hid (fun W (hb : Below w.heap.size w W) => hA1.below hb (Nat.le_refl _))
 have HA2 := Lib.hid (fun W (hb : Below w.heap.size w W) => hA2.below hb (Nat.le_refl _))
 have hsz6 : h.cells.size = 6 := rfl
 have HCV := Lib.hid (fun W hW => hd_cells h w.heap.size W hW)
 generalize h.cells = cs at *
 have HS6 := Lib.hid hsz6; clear hsz6
 have i1 : (n : Int) ≤ 100 := by omega
 have i2 : (kl : Int) ≤ 100 := by omega
 have i3 : (fl : Int) ≤ 100 := by omega
 have i4 : (h.usage.size : Int) ≤ 20 := by omega
 have i5 : (h.serial.size : Int) ≤ 20 := by omega
 generalize h.usage = us at *
 generalize h.serial = se at *
 generalize h.ver.toNat = v at *
 generalize h.alg.toNat = al at *
 clear hG hT hA0 hA1 hA2 hn hkl hfl _gw _gk _gf hr hk hbad hfit
 go_enter Tryz.func7, Tryz.ntmps7
 have hBa := Blk.new w 24 cs
 have hba := (Below.refl w.heap.size w).alloc (Nat.le_refl _) (.cells cs 24)
 have hsa : (w.alloc (.cells cs 24)).heap.size = w.heap.size + 1 := by simp
 go_wp2_with fail
 refine (HAW.out _ hba).mono ?_
 rintro e w1 ⟨rfl, hb1⟩
 have hB1 := hBa.below hb1 (by omega)
 have hbel1 := hba.trans (hb1.mono (by omega))
 obtain ⟨-, hx1, -, hx4⟩ := HCV.out _ hB1
 clear hBa hba hsa hb1
 go_wp2_with (refine wpList_load_row rfl 24 (.tmp 5) rfl w.heap.size rfl 24 cs (0,0) _ hB1 Tryz.underlying24 rfl (by rw [info_head, HS6.out]) ?_)
 refine (HWR.out _ (HA0.out _ hbel1)).mono ?_
 rintro e w2 ⟨rfl, hb2⟩
 have hB2 := hB1.below hb2 hB1.lt
 have hbel2 := hbel1.trans (hb2.mono hbel1.size)
 clear hB1 hx1 hx4 hb2 hbel1
 go_wp2_with (refine wpList_load_row rfl 24 (.tmp 5) rfl w.heap.size rfl 24 cs (0,0) _ hB2 Tryz.underlying24 rfl (by rw [info_head, HS6.out]) ?_)
 refine (HRW.out _).mono ?_
 rintro e w3 ⟨rfl, hb3⟩
 have hB3 := hB2.below hb3 hB2.lt
 have hbel3 := hbel2.trans (hb3.mono hbel2.size)
 obtain ⟨hx0, -, hx2, -⟩ := HCV.out _ hB3
 clear hb3 hbel2 hB2
 go_wp2_with fail
 refine (HRK.out _ _ _hc0 _ (HA0.out _ hbel3)).mono ?_
 rintro e w4 ⟨⟨va, vb, rfl, hva, hvb⟩, hb4⟩
 have hB4 := hB3.below hb4 hB3.lt
 have hbel4 := hbel3.trans (hb4.mono hbel3.size)
 obtain ⟨hx0, -, hx2, -⟩ := HCV.out _ hB4
 clear hva hvb hb4 hbel3 hB3
 go_wp2_with fail
 refine (HRF.out _).mono ?_
 rintro e w5 ⟨rfl, rfl⟩
 go_wp2_with fail
 refine (HFI.out _).mono ?_
 rintro e w5 ⟨rfl, rfl⟩
 go_wp2_with fail
 refine (HCO.out _ (HG.out _ hbel4)).mono ?_
 rintro e w5 ⟨rfl, hb5⟩
 have hbel5 := hbel4.trans (hb5.mono hbel4.size)
 clear hb5 hbel4 hB4 hx0 hx2
 go_wp2
 go_ret
 exact ⟨rfl, hbel5⟩

set_option maxHeartbeats 4000000 in
set_option maxRecDepth 100000 in
theorem wrapsL_ok (h : Hd) (hu : h.usage.size ≤ 20) (hs : h.serial.size ≤ 20) (wk key fill : List Nat) (n kl fl : Nat) (hn : wk.length = n) (hkl : key.length = kl) (hfl : fill.length = fl) (_gw : Byt wk) (_gk : Byt key) (_gf : Byt fill) (hn1 : n ≤ 100) (hk1 : kl ≤ 100) (hf1 : fl ≤ 100) (A0 A1 A2 : Option Addr) (c0 c1 c2 : Nat) (_hc0 : n ≤ c0) (w : World) (hA0 : At w A0 wk) (hA1 : At w A1 key) (hA2 : At w A2 fill) (hG : EtOk w) (hT : TabOk w) (hr : rightEr h = .ok) (hk : KeyOk (kindV h.ver.toNat) wk) (hfit : fitsW h.alg.toNat kl = true) (hfill : fillW h.ver.toNat (kl : Int) = (fl : Int)) (hf0 : 0 < fl) :
    Calls Tryz.prog 7 #[.slice A0 n c0, .agg h.cells, .slice A1 kl c1, .slice A2 fl c2] w fun e w' => e = .returned (.bool true) ∧ Below w.heap.size w w' := by
 have HAW := Lib.hid (fun W (hb : Below w.heap.size w W) => awake11_any W (hG.below hb (Nat.le_refl _)) (fun W' hb' => (hT.below hb).below hb'))
 have HWR := Lib.hid (fun W hA0 hA1 hA2 hT => wrap_ok h hr wk n hk hn key fill kl fl hkl hfl _gk _gf hfit hfill hf0 A0 A1 A2 c0 c1 c2 W hA0 hA1 hA2 hT)
 have HRWR := Lib.hid (fun W hA0 hA1 hA2 => refWrap_ok h hr wk n hk hn key fill kl fl hkl hfl _gk _gf hfit hfill hf0 A0 A1 A2 c0 c1 c2 _hc0 W hA0 hA1 hA2)
 have HRK := Lib.hid (fun A c hc W hA => refKeys_ok h.ver.toNat _ rfl wk hk n hn A c hc W hA)
 have HRF := Lib.hid (fun W => refFits_any h.alg.toNat kl W)
 rw [hfit] at HRF
 have HFI := Lib.hid (fun W => refFill_any h.ver.toNat (kl : Int) W)
 rw [hfill] at HFI
 have HTW := Lib.hid (fun W (hb : Below w.heap.size w W) => hT.below hb)
 generalize str (wrapS h wk key fill) = S at *
 have hSS : (S.toList == S.toList) = true := by rw [beq_iff_eq]
 generalize madeN (kindV h.ver.toNat) wk 0 = R0 at *
 generalize madeN (kindV h.ver.toNat) wk 1 = R1 at *

 have HRW := Lib.hid (fun W => refWrong_any h (by omega) (by omega) W)
 rw [hr, show erAt .ok = -1 from rfl] at HRW
 have HG := Lib.hid (fun W (hb : Below w.heap.size w W) => hG.below hb (Nat.le_refl _))
 have HA0 := Lib.hid (fun W (hb : Below w.heap.size w W) => hA0.below hb (Nat.le_refl _))
 have HA1 := Lib.hid (fun W (hb : Below w.heap.size w W) => hA1.below hb (Nat.le_refl _))
 have HA2 := Lib.hid (fun W (hb : Below w.heap.size w W) => hA2.below hb (Nat.le_refl _))
 have hsz6 : h.cells.size = 6 := rfl
 have HCV := Lib.hid (fun W hW => hd_cells h w.heap.size W hW)
 generalize h.cells = cs at *
 have HS6 := Lib.hid hsz6; clear hsz6
 have i1 : (n : Int) ≤ 100 := by omega
 have i2 : (kl : Int) ≤ 100 := by omega
 have i3 : (fl : Int) ≤ 100 := by omega
 have i4 : (h.usage.size : Int) ≤ 20 := by omega
 have i5 : (h.serial.size : Int) ≤ 20 := by omega
 generalize h.usage = us at *
 generalize h.serial = se at *
 generalize h.ver.toNat = v at *
 generalize h.alg.toNat = al at *
 clear hG hT hA0 hA1 hA2 hn hkl hfl _gw _gk _gf hr hk hfit hfill
 go_enter Tryz.func7, Tryz.ntmps7
 have hBa := Blk.new w 24 cs
 have hba := (Below.refl w.heap.size w).alloc (Nat.le_refl _) (.cells cs 24)
 have hsa : (w.alloc (.cells cs 24)).heap.size = w.heap.size + 1 := by simp
 go_wp2_with fail
 refine (HAW.out _ hba).mono ?_
 rintro e w1 ⟨rfl, hb1⟩
 have hB1 := hBa.below hb1 (by omega)
 have hbel1 := hba.trans (hb1.mono (by omega))
 obtain ⟨-, hx1, -, hx4⟩ := HCV.out _ hB1
 clear hBa hba hsa hb1
 go_wp2_with (refine wpList_load_row rfl 24 (.tmp 5) rfl w.heap.size rfl 24 cs (0,0) _ hB1 Tryz.underlying24 rfl (by rw [info_head, HS6.out]) ?_)
 refine (HWR.out _ (HA0.out _ hbel1) (HA1.out _ hbel1) (HA2.out _ hbel1) (fun W hW => (HTW.out _ hbel1).below hW)).mono ?_
 rintro e w2 ⟨rfl, hb2⟩
 have hB2 := hB1.below hb2 hB1.lt
 have hbel2 := hbel1.trans (hb2.mono hbel1.size)
 clear hB1 hx1 hx4 hb2 hbel1
 go_wp2_with (refine wpList_load_row rfl 24 (.tmp 5) rfl w.heap.size rfl 24 cs (0,0) _ hB2 Tryz.underlying24 rfl (by rw [info_head, HS6.out]) ?_)
 refine (HRW.out _).mono ?_
 rintro e w3 ⟨rfl, hb3⟩
 have hB3 := hB2.below hb3 hB2.lt
 have hbel3 := hbel2.trans (hb3.mono hbel2.size)
 obtain ⟨hx0, -, hx2, -⟩ := HCV.out _ hB3
 clear hb3 hbel2 hB2
 go_wp2_with fail
 refine (HRK.out _ _ _hc0 _ (HA0.out _ hbel3)).mono ?_
 rintro e w4 ⟨⟨va, vb, rfl, hva, hvb⟩, hb4⟩
 have hB4 := hB3.below hb4 hB3.lt
 have hbel4 := hbel3.trans (hb4.mono hbel3.size)
 obtain ⟨hx0, -, hx2, -⟩ := HCV.out _ hB4
 clear hva hvb hb4 hbel3 hB3
 go_wp2_with fail
 refine (HRF.out _).mono ?_
 rintro e w5 ⟨rfl, rfl⟩
 go_wp2_with fail
 refine (HFI.out _).mono ?_
 rintro e w5 ⟨rfl, rfl⟩
 go_wp2_with (refine wpList_load_rowG rfl 24 (.tmp 5) rfl w.heap.size rfl 24 cs hB4 _ Tryz.underlying24 rfl (by rw [info_head, HS6.out]) ?_)
 refine (HRWR.out _ (HA0.out _ hbel4) (HA1.out _ hbel4) (HA2.out _ hbel4)).mono ?_
 rintro e w5 ⟨rfl, hb5⟩
 have hbel5 := hbel4.trans (hb5.mono hbel4.size)
 clear hb5 hbel4 hB4 hx0 hx2
 go_wp2
 go_ret
 exact ⟨rfl, hbel5⟩

theorem fill_pos {v kl fl : Nat} (hk : kl = 16 ∨ kl = 24 ∨ kl = 32) (hv : kindV v ≠ 0) (hf : fillW v (kl : Int) = (fl : Int)) : 0 < fl := by
 unfold fillW at hf
 rw [if_neg (by omega), Int.toNat_natCast] at hf
 have hz : sizeN (kindV v) = 8 ∨ sizeN (kindV v) = 16 := by unfold sizeN; split <;> omega
 rcases hz with h | h <;> rw [h] at hf <;> omega
set_option maxHeartbeats 4000000 in
set_option maxRecDepth 100000 in
theorem wraps11 (w : World) (wk : List Nat) (gw : ∀ c ∈ wk, c < 256) (A0 : Option Addr) (c0 : Nat) (hc0 : wk.length ≤ c0) (_h0 : wk.length ≤ 140737488351232) (hA0 : At w A0 wk) (h : Hd) (hu : h.usage.size ≤ 140737488351232) (hs : h.serial.size ≤ 140737488351232)
    (key : List Nat) (gk : ∀ c ∈ key, c < 256) (A1 : Option Addr) (c1 : Nat) (_hc1 : key.length ≤ c1) (_h1 : key.length ≤ 140737488351232) (hA1 : At w A1 key) (fill : List Nat) (gf : ∀ c ∈ fill, c < 256) (A2 : Option Addr) (c2 : Nat) (_hc2 : fill.length ≤ c2) (_h2 : fill.length ≤ 140737488351232) (hA2 : At w A2 fill) (hG : EtOk w) (hT : TabOk w) :
    Calls Tryz.prog 7 #[.slice A0 wk.length c0, .agg h.cells, .slice A1 key.length c1, .slice A2 fill.length c2] w fun e w' => e = .returned (.bool true) ∧ Below w.heap.size w w' := by
 by_cases hall : wk.length ≤ 100 ∧ key.length ≤ 100 ∧ fill.length ≤ 100 ∧ h.usage.size ≤ 20 ∧ h.serial.size ≤ 20
 ·
  obtain ⟨l0, l1, l2, l3, l4⟩ := hall
  rcases rightEr_cases h with hr | ⟨k, hr, -⟩
  ·
   by_cases he : keysEr h.ver.toNat wk.length = .ok
   ·
    have hk := keysEr_ok gw he
    cases hfit : fitsW h.alg.toNat key.length
    ·
     exact wrapsL_sizea h l3 l4 wk key fill _ _ _ rfl rfl rfl gw gk gf l0 l1 l2 A0 A1 A2 c0 c1 c2 hc0 w hA0 hA1 hA2 hG hT hr hk hfit
    ·
     by_cases hfill : fillW h.ver.toNat (key.length : Int) = (fill.length : Int)
     ·
      exact wrapsL_ok h l3 l4 wk key fill _ _ _ rfl rfl rfl gw gk gf l0 l1 l2 A0 A1 A2 c0 c1 c2 hc0 w hA0 hA1 hA2 hG hT hr hk hfit hfill (fill_pos (fits_len hfit) (by have := hk.kind; omega) hfill)
     ·
      exact wrapsL_sizeb h l3 l4 wk key fill _ _ _ rfl rfl rfl gw gk gf l0 l1 l2 A0 A1 A2 c0 c1 c2 hc0 w hA0 hA1 hA2 hG hT hr hk hfit hfill
   ·
    exact wrapsL_keys h l3 l4 wk key fill _ _ _ rfl rfl rfl gw gk gf l0 l1 l2 A0 A1 A2 c0 c1 c2 hc0 w hA0 hA1 hA2 hG hT hr _ rfl he
  ·
   exact wrapsL_head h l3 l4 wk key fill _ _ _ rfl rfl rfl gw gk gf l0 l1 l2 A0 A1 A2 c0 c1 c2 hc0 w hA0 hA1 hA2 hG hT k hr
 ·
  have HAW := Lib.hid (fun W (hb : Below w.heap.size w W) => awake11_any W (hG.below hb (Nat.le_refl _)) (fun W' hb' => (hT.below hb).below hb'))
  have HCV := Lib.hid (fun W hW => hd_cells h w.heap.size W hW)
  generalize h.cells = cs at *
  generalize h.usage = us at *
  generalize h.serial = se at *
  generalize h.ver.toNat = v at *
  generalize h.alg.toNat = al at *
  generalize wk.length = n at *
  generalize key.length = kl at *
  generalize fill.length = fl at *
  have t0 : 100 < n ∨ (n ≤ 100 ∧ 100 < kl) ∨ (n ≤ 100 ∧ kl ≤ 100 ∧ 100 < fl) ∨ (n ≤ 100 ∧ kl ≤ 100 ∧ fl ≤ 100 ∧ 20 < us.size) ∨ (n ≤ 100 ∧ kl ≤ 100 ∧ fl ≤ 100 ∧ us.size ≤ 20 ∧ 20 < se.size) := by omega
  clear hA0 hA1 hA2 hall hG hT gw gk gf
  have hBa := Blk.new w 24 cs
  have hba := (Below.refl w.heap.size w).alloc (Nat.le_refl _) (.cells cs 24)
  have hsa : (w.alloc (.cells cs 24)).heap.size = w.heap.size + 1 := by simp
  have HBA := Lib.hid hBa; clear hBa
  have HBE := Lib.hid hba; clear hba
  have HSA := Lib.hid hsa; clear hsa
  rcases t0 with t0 | ⟨t0, t1⟩ | ⟨t0, t1, t2⟩ | ⟨t0, t1, t2, t3⟩ | ⟨t0, t1, t2, t3, t4⟩
  ·
   have i0 : 100 < (n : Int) := by omega
   go_enter Tryz.func7, Tryz.ntmps7
   go_wp2_with fail
   refine (HAW.out _ HBE.out).mono ?_
   rintro e w1 ⟨rfl, hb1⟩
   have hB1 := HBA.out.below hb1 (by have := HSA.out; omega)
   have hbel1 := HBE.out.trans (hb1.mono (by have := HSA.out; omega))
   obtain ⟨-, hx1, -, hx4⟩ := HCV.out _ hB1
   clear hb1 hB1
   go_wp2_with fail
   refine (HAW.out _ hbel1).mono ?_
   rintro e w2 ⟨rfl, hb2⟩
   have hb := hbel1.trans (hb2.mono hbel1.size)
   go_wp2
   go_ret
   exact ⟨rfl, hb⟩
  ·
   have i0 : (n : Int) ≤ 100 := by omega
   have i1 : 100 < (kl : Int) := by omega
   go_enter Tryz.func7, Tryz.ntmps7
   go_wp2_with fail
   refine (HAW.out _ HBE.out).mono ?_
   rintro e w1 ⟨rfl, hb1⟩
   have hB1 := HBA.out.below hb1 (by have := HSA.out; omega)
   have hbel1 := HBE.out.trans (hb1.mono (by have := HSA.out; omega))
   obtain ⟨-, hx1, -, hx4⟩ := HCV.out _ hB1
   clear hb1 hB1
   go_wp2_with fail
   refine (HAW.out _ hbel1).mono ?_
   rintro e w2 ⟨rfl, hb2⟩
   have hb := hbel1.trans (hb2.mono hbel1.size)
   go_wp2
   go_ret
   exact ⟨rfl, hb⟩
  ·
   have i0 : (n : Int) ≤ 100 := by omega
   have i1 : (kl : Int) ≤ 100 := by omega
   have i2 : 100 < (fl : Int) := by omega
   go_enter Tryz.func7, Tryz.ntmps7
   go_wp2_with fail
   refine (HAW.out _ HBE.out).mono ?_
   rintro e w1 ⟨rfl, hb1⟩
   have hB1 := HBA.out.below hb1 (by have := HSA.out; omega)
   have hbel1 := HBE.out.trans (hb1.mono (by have := HSA.out; omega))
   obtain ⟨-, hx1, -, hx4⟩ := HCV.out _ hB1
   clear hb1 hB1
   go_wp2_with fail
   refine (HAW.out _ hbel1).mono ?_
   rintro e w2 ⟨rfl, hb2⟩
   have hb := hbel1.trans (hb2.mono hbel1.size)
   go_wp2
   go_ret
   exact ⟨rfl, hb⟩
  ·
   have i0 : (n : Int) ≤ 100 := by omega
   have i1 : (kl : Int) ≤ 100 := by omega
   have i2 : (fl : Int) ≤ 100 := by omega
   have i3 : 20 < (us.size : Int) := by omega
   go_enter Tryz.func7, Tryz.ntmps7
   go_wp2_with fail
   refine (HAW.out _ HBE.out).mono ?_
   rintro e w1 ⟨rfl, hb1⟩
   have hB1 := HBA.out.below hb1 (by have := HSA.out; omega)
   have hbel1 := HBE.out.trans (hb1.mono (by have := HSA.out; omega))
   obtain ⟨-, hx1, -, hx4⟩ := HCV.out _ hB1
   clear hb1 hB1
   go_wp2_with fail
   refine (HAW.out _ hbel1).mono ?_
   rintro e w2 ⟨rfl, hb2⟩
   have hb := hbel1.trans (hb2.mono hbel1.size)
   go_wp2
   go_ret
   exact ⟨rfl, hb⟩
  ·
   have i0 : (n : Int) ≤ 100 := by omega
   have i1 : (kl : Int) ≤ 100 := by omega
   have i2 : (fl : Int) ≤ 100 := by omega
   have i3 : (us.size : Int) ≤ 20 := by omega
   have i4 : 20 < (se.size : Int) := by omega
   go_enter Tryz.func7, Tryz.ntmps7
   go_wp2_with fail
   refine (HAW.out _ HBE.out).mono ?_
   rintro e w1 ⟨rfl, hb1⟩
   have hB1 := HBA.out.below hb1 (by have := HSA.out; omega)
   have hbel1 := HBE.out.trans (hb1.mono (by have := HSA.out; omega))
   obtain ⟨-, hx1, -, hx4⟩ := HCV.out _ hB1
   clear hb1 hB1
   go_wp2_with fail
   refine (HAW.out _ hbel1).mono ?_
   rintro e w2 ⟨rfl, hb2⟩
   have hb := hbel1.trans (hb2.mono hbel1.size)
   go_wp2
   go_ret
   exact ⟨rfl, hb⟩
end Go.Proofs.YtfkjkkjimdilcaaGreatDoor
