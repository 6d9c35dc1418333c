/- lockboxlaw10.HeadBack: the walk. -/
import Derived.Test.YtcjnkobddeiahaaDoorBackA
namespace Go.Proofs.YtcjnkobddeiahaaDoor
open Go Go.RowKit Pr

set_option maxHeartbeats 4000000 in
set_option maxRecDepth 100000 in
theorem back10 (h : Hd) (hu : h.usage.size ≤ 140737488351232) (hs : h.serial.size ≤ 140737488351232) (n : Int) (s : ByteArray) (hsz : s.size ≤ 140737488351232) (w : World) (hG : EtOk w) (hT : TabOk w) :
    Calls Tryd.prog 3 #[.agg h.cells, .int .i64 n, .string s] w fun e w' => e = .returned (.bool true) ∧ Below w.heap.size w w' := by
  have hb0 : Below w.heap.size w (w.alloc (.cells h.cells 23)) := (Below.refl _ _).alloc (Nat.le_refl _) _
  have hB0 := Blk.new w 23 h.cells
  have hPS := fun W hG => parse_any s hsz W hG
  have HP := fun W hW => print_any h hu hs n W hW
  have HAW := Lib.hid (fun W (hb : Below w.heap.size w W) => awake10_any W (hG.below hb (Nat.le_refl _)) (hT.below hb))
  have HT := Lib.hid (fun W (hb : Below w.heap.size w W) => hT.below hb)
  -- the first part: what is printed is read
  have hfirst : (printEr h n = .ok ∧ (printS h n).size = 16 ∧ ∀ W, EtOk W → (printS h n).size + s.size ≤ 140737488351232 → Calls Tryd.prog 10 #[.string (printS h n ++ s)] W fun e w' => (∃ v, e = .returned (.tuple #[.agg h.cells, .int .i64 n, v]) ∧ v = .nilIface) ∧ Below W.heap.size W w') ∨ (∀ W B v, ErIs W B v (printEr h n) → ∃ t x, v = .iface t x) := by
    rcases rightEr_cases h with hr | ⟨k, hr, _⟩
    · by_cases hn : n < 16 ∨ 9999 < n
      · right
        have e1 : printEr h n = .no 1 := by unfold printEr; rw [hr, if_pos hn]; rfl
        rw [e1]
        exact fun W B v hv => ⟨_, _, hv⟩
      · left
        have e1 : printEr h n = .ok := by unfold printEr; rw [hr, if_neg hn]; rfl
        have e2 : printS h n = str (printL h n.toNat) := by unfold printS; rw [e1]; rfl
        obtain ⟨g1, g2, g3, g4⟩ := back_print hr (n := n.toNat) (by omega) (by omega) s
        rw [e2]
        refine ⟨e1, g4, fun W hW hle => ?_⟩
        have := parse_any (str (printL h n.toNat) ++ s) (by rw [ByteArray.size_append]; exact hle) W hW
        rw [g1, g2, g3, show ((n.toNat : Nat) : Int) = n by omega] at this
        exact this
    · right
      have e1 : printEr h n = .fa k 6 := by unfold printEr; rw [hr]; rfl
      rw [e1]
      rintro W B v ⟨g, rfl, _⟩
      exact ⟨_, _, rfl⟩
  -- the second part: what is read is printed
  have hsecond : (parseEr s = .ok ∧ Hid (Hid (∀ W, (∀ W', Below W.heap.size W W' → TabOk W') → Calls Tryd.prog 9 #[.agg (parseHd s).cells, .int .i64 (parseN s)] W fun e w' => e = .returned (.tuple #[.string (s.extract 0 16), .nilIface]) ∧ Below W.heap.size W w') ∧ Hid (∀ W, Calls Tryd.prog 11 #[.agg (parseHd s).cells] W fun e w' => (∃ v, e = .returned v ∧ ErIs w' W.heap.size v .ok) ∧ Below W.heap.size W w'))) ∨ Hid (∀ (v : Value) (W : World) (B : Nat), ErIs W B v (parseEr s) → ∃ t x, v = .iface t x) := by
    by_cases hok : parseEr s = .ok
    · left
      obtain ⟨hs16, hr, N, hN, h16, h99, hp⟩ := back_parse hok
      have e1 : parseHd s = hdOf s := by unfold parseHd; rw [hok]; rfl
      have e2 : parseN s = (N : Int) := by unfold parseN; rw [hok]; exact hN
      rw [e1, e2]
      refine ⟨hok, fun W hW => ?_, fun W => ?_⟩
      · have := print_ok (hdOf s) hr N h16 h99 W hW
        rw [hp] at this
        exact this
      · have := right_any (hdOf s) (by show (s.extract 5 7).size ≤ _; rw [ByteArray.size_extract]; omega) (by show (s.extract 9 11).size ≤ _; rw [ByteArray.size_extract]; omega) W
        rw [hr] at this
        exact this
    · right
      intro v W B hv
      generalize parseEr s = pe at *
      cases pe with
      | ok => exact absurd rfl hok
      | no m => exact ⟨_, _, hv⟩
      | fa p m =>
        obtain ⟨g, rfl, _⟩ := hv
        exact ⟨_, _, rfl⟩
  have hz16 : parseEr s = .ok → Hid ((16 : Int) ≤ (s.size : Int) ∧ True) := fun hok => by
    have := (back_parse hok).1
    exact ⟨by omega, trivial⟩
  have HZ := Lib.hid hz16; clear hz16
  generalize parseEr s = pe at *
  generalize parseHd s = y at *
  generalize parseN s = yn at *
  generalize printEr h n = pr at *
  generalize printS h n = S at *
  unfold Hd.cells at *
  have HPS := Lib.hid hPS; clear hPS
  have HPR := Lib.hid HP; clear HP
  have HCS := Lib.hid hsecond; clear hsecond
  have HFS := Lib.hid hfirst; clear hfirst
  clear hT
  generalize h.ver.toNat = v0 at *
  generalize h.usage = v1 at *
  generalize h.alg.toNat = v2 at *
  generalize h.mode.toNat = v3 at *
  generalize h.serial = v4 at *
  generalize h.exp.toNat = v5 at *
  generalize y.ver.toNat = y0 at *
  generalize y.usage = y1 at *
  generalize y.alg.toNat = y2 at *
  generalize y.mode.toNat = y3 at *
  generalize y.serial = y4 at *
  generalize y.exp.toNat = y5 at *
  go_enter Tryd.func3, Tryd.ntmps3
  go_wp2_with fail
  refine (HAW.out _ hb0).mono ?_
  rintro e w1 ⟨rfl, hq1⟩
  have hB1 := hB0.below hq1 hB0.lt
  have hb1 := hb0.trans (hq1.mono hb0.size)
  clear hB0 hb0 hq1
  obtain ⟨k0, k1, k2, k3, k4, k5⟩ := hd6 hB1
  by_cases b1 : (v1.size : Int) ≤ 20
  · by_cases b2 : (v4.size : Int) ≤ 20
    · by_cases b3 : (s.size : Int) ≤ 200
      · go_wp2_with fail
        refine (HPR.out _ (fun W hW => HT.out W (hb1.trans (hW.mono hb1.size)))).mono ?_
        rintro e w2 ⟨⟨v, rfl, hv⟩, hq2⟩
        have hB2 := hB1.below hq2 hB1.lt
        have hb2 := hb1.trans (hq2.mono hb1.size)
        have HZ16 := HZ
        clear k0 k1 k2 k3 k4 k5 hB1 hb1 HAW HPR
        rcases HFS.out with ⟨rfl, hS, hpp⟩ | hno
        · obtain rfl : v = _ := hv
          have HPP := Lib.hid (fun W hW => hpp W hW (by omega))
          clear hpp HFS
          have hs1 : S.size = 16 := hS
          go_wp2_with fail
          refine (HPP.out _ (hG.below hb2 (Nat.le_refl _))).mono ?_
          rintro e w3 ⟨⟨v, rfl, rfl⟩, hq3⟩
          have hb3 := hb2.trans (hq3.mono hb2.size)
          have hB3 := (hB2.below hq3 hB2.lt).alloc (.cells #[.int .u8 (v0 : Int), .string v1, .int .u8 (v2 : Int), .int .u8 (v3 : Int), .string v4, .int .u8 (v5 : Int)] 23)
          have hX3 := Blk.new w3 23 #[.int .u8 (v0 : Int), .string v1, .int .u8 (v2 : Int), .int .u8 (v3 : Int), .string v4, .int .u8 (v5 : Int)]
          have hb4 := hb3.alloc hb3.size (.cells #[.int .u8 (v0 : Int), .string v1, .int .u8 (v2 : Int), .int .u8 (v3 : Int), .string v4, .int .u8 (v5 : Int)] 23)
          obtain ⟨k0, k1, k2, k3, k4, k5⟩ := hd6 hB3
          obtain ⟨m0, m1, m2, m3, m4, m5⟩ := hd6 hX3
          clear hq2 hq3 hb2 hb3 hB2 HPP
          go_wp2_with fail
          refine (HPS.out _ (hG.below hb4 (Nat.le_refl _))).mono ?_
          rintro e wA ⟨⟨g, rfl, hg⟩, hqA⟩
          have hbA := hb4.trans (hqA.mono hb4.size)
          rcases HCS.out with ⟨rfl, hy⟩ | hno
          · obtain rfl : g = _ := hg
            obtain ⟨HPY, HRY⟩ := hy.out
            have hY := Blk.new wA 23 #[.int .u8 (y0 : Int), .string y1, .int .u8 (y2 : Int), .int .u8 (y3 : Int), .string y4, .int .u8 (y5 : Int)]
            have hbB := hbA.alloc hbA.size (.cells #[.int .u8 (y0 : Int), .string y1, .int .u8 (y2 : Int), .int .u8 (y3 : Int), .string y4, .int .u8 (y5 : Int)] 23)
            go_wp2_with fail
            refine (HPY.out _ (fun W hW => HT.out W (hbB.trans (hW.mono hbB.size)))).mono ?_
            rintro e wC ⟨rfl, hqC⟩
            have hYC := hY.below hqC hY.lt
            have hbC := hbB.trans (hqC.mono hbB.size)
            obtain ⟨y0', y1', y2', y3', y4', y5'⟩ := hd6 hYC
            have hz16 := (HZ16.out (by trivial)).out.1
            go_wp2_with fail
            refine (HRY.out _).mono ?_
            rintro e wD ⟨⟨u, rfl, hu⟩, hqD⟩
            obtain rfl : u = _ := hu
            have hbD := hbC.trans (hqD.mono hbC.size)
            go_wp2
            go_ret
            exact ⟨rfl, hbD⟩
          · obtain ⟨gu, gx, rfl⟩ := hno.out g _ _ hg
            have hbB := hbA.alloc hbA.size (.cells #[.int .u8 (y0 : Int), .string y1, .int .u8 (y2 : Int), .int .u8 (y3 : Int), .string y4, .int .u8 (y5 : Int)] 23)
            go_wp2
            go_ret
            exact ⟨rfl, hbB⟩
        · obtain ⟨vt, vx, rfl⟩ := hno _ _ _ hv
          clear hno HFS hv
          go_wp2_with fail
          refine (HPS.out _ (hG.below hb2 (Nat.le_refl _))).mono ?_
          rintro e wA ⟨⟨g, rfl, hg⟩, hqA⟩
          have hbA := hb2.trans (hqA.mono hb2.size)
          rcases HCS.out with ⟨rfl, hy⟩ | hno
          · obtain rfl : g = _ := hg
            obtain ⟨HPY, HRY⟩ := hy.out
            have hY := Blk.new wA 23 #[.int .u8 (y0 : Int), .string y1, .int .u8 (y2 : Int), .int .u8 (y3 : Int), .string y4, .int .u8 (y5 : Int)]
            have hbB := hbA.alloc hbA.size (.cells #[.int .u8 (y0 : Int), .string y1, .int .u8 (y2 : Int), .int .u8 (y3 : Int), .string y4, .int .u8 (y5 : Int)] 23)
            go_wp2_with fail
            refine (HPY.out _ (fun W hW => HT.out W (hbB.trans (hW.mono hbB.size)))).mono ?_
            rintro e wC ⟨rfl, hqC⟩
            have hYC := hY.below hqC hY.lt
            have hbC := hbB.trans (hqC.mono hbB.size)
            obtain ⟨y0', y1', y2', y3', y4', y5'⟩ := hd6 hYC
            have hz16 := (HZ16.out (by trivial)).out.1
            go_wp2_with fail
            refine (HRY.out _).mono ?_
            rintro e wD ⟨⟨u, rfl, hu⟩, hqD⟩
            obtain rfl : u = _ := hu
            have hbD := hbC.trans (hqD.mono hbC.size)
            go_wp2
            go_ret
            exact ⟨rfl, hbD⟩
          · obtain ⟨gu, gx, rfl⟩ := hno.out g _ _ hg
            have hbB := hbA.alloc hbA.size (.cells #[.int .u8 (y0 : Int), .string y1, .int .u8 (y2 : Int), .int .u8 (y3 : Int), .string y4, .int .u8 (y5 : Int)] 23)
            go_wp2
            go_ret
            exact ⟨rfl, hbB⟩
      · clear HPS HPR HCS HFS HZ
        go_wp2_with fail
        refine (HAW.out _ hb1).mono ?_
        rintro e w2 ⟨rfl, hq2⟩
        have hb2 := hb1.trans (hq2.mono hb1.size)
        go_wp2
        go_ret
        exact ⟨rfl, hb2⟩
    · clear HPS HPR HCS HFS HZ
      go_wp2_with fail
      refine (HAW.out _ hb1).mono ?_
      rintro e w2 ⟨rfl, hq2⟩
      have hb2 := hb1.trans (hq2.mono hb1.size)
      go_wp2
      go_ret
      exact ⟨rfl, hb2⟩
  · clear HPS HPR HCS HFS HZ
    go_wp2_with fail
    refine (HAW.out _ hb1).mono ?_
    rintro e w2 ⟨rfl, hq2⟩
    have hb2 := hb1.trans (hq2.mono hb1.size)
    go_wp2
    go_ret
    exact ⟨rfl, hb2⟩
end Go.Proofs.YtcjnkobddeiahaaDoor
