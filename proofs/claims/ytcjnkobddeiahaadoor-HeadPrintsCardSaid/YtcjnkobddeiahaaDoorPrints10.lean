/- lockboxlaw10.HeadPrints: the walk. -/
import Derived.Test.YtcjnkobddeiahaaDoorLaw10A
namespace Go.Proofs.YtcjnkobddeiahaaDoor
open Go Go.RowKit Pr
theorem hd6 {W : World} {g : Nat} {t : TypeId} {a b c d e f : Value} (h : Blk W g t #[a, b, c, d, e, f]) :
    W.cell? ⟨g, 0, none⟩ = some a ∧ W.cell? ⟨g, 1, none⟩ = some b ∧ W.cell? ⟨g, 2, none⟩ = some c ∧ W.cell? ⟨g, 3, none⟩ = some d ∧ W.cell? ⟨g, 4, none⟩ = some e ∧ W.cell? ⟨g, 5, none⟩ = some f :=
  ⟨h.cell 0, h.cell 1, h.cell 2, h.cell 3, h.cell 4, h.cell 5⟩

set_option maxHeartbeats 4000000 in
set_option maxRecDepth 100000 in
theorem prints10 (h : Hd) (hu : h.usage.size ≤ 140737488351232) (hs : h.serial.size ≤ 140737488351232) (n : Int) (w : World) (hG : EtOk w) (hT : TabOk w) :
    Calls Tryd.prog 5 #[.agg h.cells, .int .i64 n] w fun e w' => e = .returned (.bool true) ∧ Below w.heap.size w w' := by
  have hb0 : Below w.heap.size w (w.alloc (.cells h.cells 23)) := (Below.refl _ _).alloc (Nat.le_refl _) _
  have hB0 := Blk.new w 23 h.cells
  have HP := fun W hW => print_any h hu hs n W hW
  have HR := fun W => right_any h hu hs W
  have HW := fun W => refWrong_any h hu hs W
  have HRP := fun (hr : rightEr h = .ok) (h1 : 16 ≤ n) (h2 : n ≤ 9999) W => refPrint_ok h hr n.toNat (by omega) (by omega) W
  have HAW := Lib.hid (fun W (hb : Below w.heap.size w W) => awake10_any W (hG.below hb (Nat.le_refl _)) (hT.below hb))
  have HT := Lib.hid (fun W (hb : Below w.heap.size w W) => hT.below hb)
  have hrc := rightEr_cases h
  have hpe : ∀ e, rightEr h = e → isOk e = false → printEr h n = e ∧ printS h n = ⟨#[]⟩ := fun e h1 h2 => by
    have e1 : printEr h n = e := by unfold printEr; rw [h1, h2]; rfl
    exact ⟨e1, by unfold printS; rw [e1, h2]; rfl⟩
  have hpo : rightEr h = .ok → (n < 16 ∨ 9999 < n) → printEr h n = .no 1 ∧ printS h n = ⟨#[]⟩ := fun h1 h2 => by
    have e1 : printEr h n = .no 1 := by unfold printEr; rw [h1, if_pos h2]; rfl
    exact ⟨e1, by unfold printS; rw [e1]; rfl⟩
  have hpk : rightEr h = .ok → ¬ (n < 16 ∨ 9999 < n) → printEr h n = .ok ∧ printS h n = str (printL h n.toNat) := fun h1 h2 => by
    have e1 : printEr h n = .ok := by unfold printEr; rw [h1, if_neg h2]; rfl
    exact ⟨e1, by unfold printS; rw [e1]; rfl⟩
  have HPE := Lib.hid hpe; clear hpe
  have HPO := Lib.hid hpo; clear hpo
  have HPK := Lib.hid hpk; clear hpk
  unfold Hd.cells at *
  generalize printS h n = S at *
  generalize printEr h n = pe at *
  generalize rightEr h = re at *
  generalize printL h n.toNat = PL at *
  have HRP : Hid (∀ (hr : re = .ok) (h1 : 16 ≤ n) (h2 : n ≤ 9999) W, Calls Tryd.prog 15 #[.agg #[.int .u8 (h.ver.toNat : Int), .string h.usage, .int .u8 (h.alg.toNat : Int), .int .u8 (h.mode.toNat : Int), .string h.serial, .int .u8 (h.exp.toNat : Int)], .int .i64 n] W fun e w' => e = .returned (.string (str PL)) ∧ Below W.heap.size W w') := fun a b c W => by
    have := HRP a b c W
    rw [show ((n.toNat : Nat) : Int) = n by omega] at this
    exact this
  have HP := Lib.hid HP
  have HR := Lib.hid HR
  have HW := Lib.hid HW
  generalize h.ver.toNat = v0 at *
  generalize h.usage = v1 at *
  generalize h.alg.toNat = v2 at *
  generalize h.mode.toNat = v3 at *
  generalize h.serial = v4 at *
  generalize h.exp.toNat = v5 at *
  go_enter Tryd.func5, Tryd.ntmps5
  go_wp2_with fail
  refine (HAW.out _ hb0).mono ?_
  rintro e w1 ⟨rfl, hq1⟩
  have hB1 := hB0.below hq1 hB0.lt
  have hb1 := hb0.trans (hq1.mono hb0.size)
  clear hB0 hb0 hq1 hT
  obtain ⟨k0, k1, k2, k3, k4, k5⟩ := hd6 hB1
  by_cases hbig : v1.size ≤ 20 ∧ v4.size ≤ 20
  · obtain ⟨b1, b2⟩ := hbig
    have b1' : (v1.size : Int) ≤ 20 := by omega
    have b2' : (v4.size : Int) ≤ 20 := by omega
    go_wp2_with fail
    refine (HP.out _ (fun W hW => HT.out W (hb1.trans (hW.mono hb1.size)))).mono ?_
    rintro e w2 ⟨⟨v, rfl, hv⟩, hq2⟩
    have hB2 := hB1.below hq2 hB1.lt
    have hb2 := hb1.trans (hq2.mono hb1.size)
    clear k0 k1 k2 k3 k4 k5 HP hB1 hb1 HT HAW
    obtain ⟨k0, k1, k2, k3, k4, k5⟩ := hd6 hB2
    go_wp2_with fail
    refine (HR.out _).mono ?_
    rintro e w3 ⟨⟨u, rfl, hu3⟩, hq3⟩
    have hB3 := hB2.below hq3 hB2.lt
    have hb3 := hb2.trans (hq3.mono hb2.size)
    have hv3 := hv.below hq3 (Nat.le_refl _)
    clear k0 k1 k2 k3 k4 k5 HR hB2 hb2 hv hq2
    obtain ⟨k0, k1, k2, k3, k4, k5⟩ := hd6 hB3
    go_wp2_with fail
    refine (HW.out _).mono ?_
    rintro e w4 ⟨rfl, hq4⟩
    have hB4 := hB3.below hq4 hB3.lt
    have hb4 := hb3.trans (hq4.mono hb3.size)
    have hv4 := hv3.below hq4 (Nat.le_refl _)
    have hu4 := hu3.below hq4 (Nat.le_refl _)
    have hG4 := hG.below hb4 (Nat.le_refl _)
    clear k0 k1 k2 k3 k4 k5 HW hB3 hb3 hv3 hu3 hq3 hq4
    obtain ⟨k0, k1, k2, k3, k4, k5⟩ := hd6 hB4
    rcases hrc with hr | ⟨p, hr, -⟩
    · subst hr
      have f0 : erAt .ok = -1 := rfl
      obtain rfl : u = _ := hu4
      by_cases hn : n < 16 ∨ 9999 < n
      · obtain ⟨rfl, rfl⟩ := HPO.out rfl hn
        obtain rfl : v = _ := hv4
        clear HPE HPO HPK HRP
        have hn2 : 16 ≤ n → 9999 < n := fun h => by omega
        by_cases q1 : n < 16
        · go_wp2_with fail
          refine (code_any _ (.no 1) 0 _ rfl hG4).mono ?_
          rintro e w5 ⟨rfl, hq5⟩
          have hb5 := hb4.trans (hq5.mono hb4.size)
          have f1 : erCode (.no 1) = 1 := rfl
          go_wp2
          go_ret
          exact ⟨rfl, hb5⟩
        · have q2 := hn2 (by omega)
          clear hn hn2
          go_wp2_with fail
          refine (code_any _ (.no 1) 0 _ rfl hG4).mono ?_
          rintro e w5 ⟨rfl, hq5⟩
          have hb5 := hb4.trans (hq5.mono hb4.size)
          have f1 : erCode (.no 1) = 1 := rfl
          go_wp2
          go_ret
          exact ⟨rfl, hb5⟩
      · obtain ⟨rfl, rfl⟩ := HPK.out rfl hn
        obtain rfl : v = _ := hv4
        have q1 : ¬ n < 16 := by omega
        have q2 : ¬ 9999 < n := by omega
        have HQ := Lib.hid (HRP.out rfl (by omega) (by omega))
        clear HPE HPO HPK HRP hn
        go_wp2_with fail
        refine (HQ.out _).mono ?_
        rintro e w5 ⟨rfl, hq5⟩
        have hb5 := hb4.trans (hq5.mono hb4.size)
        go_wp2
        go_ret
        exact ⟨rfl, hb5⟩
    · obtain ⟨rfl, rfl⟩ := HPE.out _ hr rfl
      clear HPE HPO HPK HRP
      have f0 : erAt re = (p : Int) := by rw [hr]; rfl
      have f1 : (0 : Int) ≤ (p : Int) := by omega
      rw [hr] at hu4
      rw [f0]
      have fc : erCode (.fa (p : Int) 6) = 6 := rfl
      have fa : erAt (.fa (p : Int) 6) = (p : Int) := rfl
      clear hr f0
      clear k0 k1 k2 k3 k4 k5 hB4
      go_wp2_with fail
      refine (code_any _ _ _ _ hv4 hG4).mono ?_
      rintro e w5 ⟨rfl, hq5⟩
      have hb5 := hb4.trans (hq5.mono hb4.size)
      have hv5 := hv4.below hq5 (Nat.le_refl _)
      have hu5 := hu4.below hq5 (Nat.le_refl _)
      have hG5 := hG.below hb5 (Nat.le_refl _)
      go_wp2_with fail
      refine (at_any _ _ _ _ hv5 hG5).mono ?_
      rintro e w6 ⟨rfl, hq6⟩
      have hb6 := hb5.trans (hq6.mono hb5.size)
      have hu6 := hu5.below hq6 (Nat.le_refl _)
      have hG6 := hG.below hb6 (Nat.le_refl _)
      go_wp2_with fail
      refine (code_any _ _ _ _ hu6 hG6).mono ?_
      rintro e w7 ⟨rfl, hq7⟩
      have hb7 := hb6.trans (hq7.mono hb6.size)
      have hu7 := hu6.below hq7 (Nat.le_refl _)
      have hG7 := hG.below hb7 (Nat.le_refl _)
      go_wp2_with fail
      refine (at_any _ _ _ _ hu7 hG7).mono ?_
      rintro e w8 ⟨rfl, hq8⟩
      have hb8 := hb7.trans (hq8.mono hb7.size)
      go_wp2
      go_ret
      exact ⟨rfl, hb8⟩
  · by_cases b1 : v1.size ≤ 20
    · have b2 : ¬ v4.size ≤ 20 := fun h => hbig ⟨b1, h⟩
      have b1' : (v1.size : Int) ≤ 20 := by omega
      have b2' : ¬ (v4.size : Int) ≤ 20 := by omega
      clear hbig
      go_wp2_with fail
      refine (HAW.out _ hb1).mono ?_
      rintro e w2 ⟨rfl, hq2⟩
      have hb2 := hb1.trans (hq2.mono hb1.size)
      go_wp2
      go_ret
      exact ⟨rfl, hb2⟩
    · have b1' : ¬ (v1.size : Int) ≤ 20 := by omega
      clear hbig
      go_wp2_with fail
      refine (HAW.out _ hb1).mono ?_
      rintro e w2 ⟨rfl, hq2⟩
      have hb2 := hb1.trans (hq2.mono hb1.size)
      go_wp2
      go_ret
      exact ⟨rfl, hb2⟩
end Go.Proofs.YtcjnkobddeiahaaDoor
