/- lockboxlaw10.HeadOther: the walk. -/
import Derived.Test.YtcjnkobddeiahaaDoorPrints10
namespace Go.Proofs.YtcjnkobddeiahaaDoor
open Go Go.RowKit Pr

theorem dig4_inj {n m : Nat} (hn : n ≤ 9999) (hm : m ≤ 9999) (h : dig4 n = dig4 m) : n = m := by
  unfold dig4 at h
  simp only [List.cons.injEq, and_true] at h
  obtain ⟨h1, h2, h3, h4⟩ := h
  have e : ∀ a b : Nat, a < 256 → b < 256 → UInt8.ofNat a = UInt8.ofNat b → a = b := fun a b ha hb h => by
    have := congrArg UInt8.toNat h
    rwa [UInt8.toNat_ofNat_of_lt' ha, UInt8.toNat_ofNat_of_lt' hb] at this
  have q1 := e _ _ (by omega) (by omega) h1
  have q2 := e _ _ (by omega) (by omega) h2
  have q3 := e _ _ (by omega) (by omega) h3
  have q4 := e _ _ (by omega) (by omega) h4
  omega
theorem printL_inj {a b : Hd} {n m : Nat} (ha : a.usage.size = 2) (hb : b.usage.size = 2) (hc : a.serial.size = 2) (hd : b.serial.size = 2) (hn : n ≤ 9999) (hm : m ≤ 9999) (h : printL a n = printL b m) : a = b ∧ n = m := by
  obtain ⟨a1, a2, hA⟩ := two_of ha
  obtain ⟨b1, b2, hB⟩ := two_of hb
  obtain ⟨c1, c2, hC⟩ := two_of hc
  obtain ⟨d1, d2, hD⟩ := two_of hd
  have hd4 : dig4 n = dig4 m := by
    unfold printL dig4 at h
    rw [hA, hB, hC, hD] at h
    simp only [str_list, List.cons_append, List.nil_append, List.cons.injEq, and_true] at h
    unfold dig4
    rw [h.2.1, h.2.2.1, h.2.2.2.1, h.2.2.2.2.1]
  refine ⟨?_, dig4_inj hn hm hd4⟩
  unfold printL dig4 at h
  rw [hA, hB, hC, hD] at h
  simp only [str_list, List.cons_append, List.nil_append, List.cons.injEq, and_true] at h
  obtain ⟨h0, _, _, _, _, h5, h6, h7, h8, h9, h10, h11⟩ := h
  cases a; cases b
  simp_all

theorem hd_eq {a b : Hd} (h0 : (a.ver.toNat : Int) = b.ver.toNat) (h1 : a.usage.toList = b.usage.toList) (h2 : (a.alg.toNat : Int) = b.alg.toNat) (h3 : (a.mode.toNat : Int) = b.mode.toNat) (h4 : a.serial.toList = b.serial.toList) (h5 : (a.exp.toNat : Int) = b.exp.toNat) : a = b := by
  have g0 : a.ver = b.ver := UInt8.toNat_inj.1 (by omega)
  have g2 : a.alg = b.alg := UInt8.toNat_inj.1 (by omega)
  have g3 : a.mode = b.mode := UInt8.toNat_inj.1 (by omega)
  have g5 : a.exp = b.exp := UInt8.toNat_inj.1 (by omega)
  have e : ∀ x y : ByteArray, x.toList = y.toList → x = y := fun x y h => by
    rw [ByteArray.toList_eq, ByteArray.toList_eq] at h
    exact ByteArray.ext (Array.toList_inj.1 h)
  have g1 := e _ _ h1
  have g4 := e _ _ h4
  cases a; cases b
  simp_all

set_option maxHeartbeats 4000000 in
set_option maxRecDepth 100000 in
theorem other10 (a : Hd) (hau : a.usage.size ≤ 140737488351232) (has : a.serial.size ≤ 140737488351232) (b : Hd) (hbu : b.usage.size ≤ 140737488351232) (hbs : b.serial.size ≤ 140737488351232) (n : Nat) (hn : n < 65536) (m : Nat) (hm : m < 65536) (w : World) (hG : EtOk w) (hT : TabOk w) :
    Calls Tryd.prog 4 #[.agg a.cells, .agg b.cells, .int .u16 (n : Int), .int .u16 (m : Int)] w fun e w' => e = .returned (.bool true) ∧ Below w.heap.size w w' := by
  have hA0 := (Blk.new w 23 a.cells).alloc (.cells b.cells 23)
  have hB0 := Blk.new (w.alloc (.cells a.cells 23)) 23 b.cells
  rw [World.size_alloc] at hB0
  have hb0 : Below w.heap.size w ((w.alloc (.cells a.cells 23)).alloc (.cells b.cells 23)) := ((Below.refl _ _).alloc (Nat.le_refl _) _).alloc (by simp) _
  have HAW := Lib.hid (fun W (hb : Below w.heap.size w W) => awake10_any W (hG.below hb (Nat.le_refl _)) (hT.below hb))
  have HT := Lib.hid (fun W (hb : Below w.heap.size w W) => hT.below hb)
  have HWA := fun W => refWrong_any a hau has W
  have HWB := fun W => refWrong_any b hbu hbs W
  have hex : ∀ c : Hd, ∃ p : Nat, rightEr c = .ok ∨ erAt (rightEr c) = (p : Int) := fun c => by
    rcases rightEr_cases c with h | ⟨k, h, _⟩
    · exact ⟨0, .inl h⟩
    · exact ⟨k, .inr (by rw [h]; rfl)⟩
  obtain ⟨pa, hpa⟩ := hex a
  obtain ⟨pb, hpb⟩ := hex b
  clear hex
  by_cases hra : rightEr a = .ok
  · rw [hra, show erAt .ok = -1 from rfl] at HWA
    by_cases hrb : rightEr b = .ok
    · rw [hrb, show erAt .ok = -1 from rfl] at HWB
      obtain ⟨x, hx⟩ : ∃ x, x = 16 + n % 9984 := ⟨_, rfl⟩
      obtain ⟨y, hy⟩ : ∃ y, y = 16 + m % 9984 := ⟨_, rfl⟩
      have e1 : (n : Int) % 9984 = ((n % 9984 : Nat) : Int) := by omega
      have e2 : (m : Int) % 9984 = ((m % 9984 : Nat) : Int) := by omega
      have e3 : 16 + ((n % 9984 : Nat) : Int) = (x : Int) := by omega
      have e4 : 16 + ((m % 9984 : Nat) : Int) = (y : Int) := by omega
      have HPA := fun W hW => print_ok a hra x (by omega) (by omega) W hW
      have HPB := fun W hW => print_ok b hrb y (by omega) (by omega) W hW
      have hinj : str (printL a x) = str (printL b y) → a = b ∧ x = y := fun h => by
        obtain ⟨_, _, _, _, z1, z2⟩ := right_ok hra
        obtain ⟨_, _, _, _, z3, z4⟩ := right_ok hrb
        have h2 : printL a x = printL b y := congrArg (fun s : ByteArray => s.data.toList) h
        exact printL_inj z1 z3 z2 z4 (by omega) (by omega) h2
      have HINJ := Lib.hid hinj; clear hinj
      clear hpa hpb hx hy hra hrb
      unfold Hd.cells at *
      have HPA' := Lib.hid HPA; clear HPA
      have HPB' := Lib.hid HPB; clear HPB
      have HWA' := Lib.hid HWA; clear HWA
      have HWB' := Lib.hid HWB; clear HWB
      generalize n % 9984 = n1 at *
      generalize m % 9984 = m1 at *
      by_cases hxy : x = y
      · by_cases heq : a = b
        · subst hxy
          subst heq
          clear HINJ
          generalize str (printL a x) = SA at *
          go_enter Tryd.func4, Tryd.ntmps4
          go_wp2_with fail
          refine (HAW.out _ hb0).mono ?_
          rintro e w1 ⟨rfl, hq1⟩
          have hA1 := hA0.below hq1 hA0.lt
          have hB1 := hB0.below hq1 hB0.lt
          have hb1 := hb0.trans (hq1.mono hb0.size)
          clear hA0 hB0 hb0 hq1 HAW
          obtain ⟨k0, k1, k2, k3, k4, k5⟩ := hd6 hA1
          obtain ⟨l0, l1, l2, l3, l4, l5⟩ := hd6 hB1
          go_wp2_with fail
          refine (HWA'.out _).mono ?_
          rintro e w2 ⟨rfl, hq2⟩
          have hA2 := hA1.below hq2 hA1.lt
          have hB2 := hB1.below hq2 hB1.lt
          have hb2 := hb1.trans (hq2.mono hb1.size)
          clear hA1 hB1 hb1 hq2 k0 k1 k2 k3 k4 k5 l0 l1 l2 l3 l4 l5
          obtain ⟨k0, k1, k2, k3, k4, k5⟩ := hd6 hA2
          obtain ⟨l0, l1, l2, l3, l4, l5⟩ := hd6 hB2
          go_wp2_with fail
          refine (HWB'.out _).mono ?_
          rintro e w3 ⟨rfl, hq3⟩
          have hA3 := hA2.below hq3 hA2.lt
          have hB3 := hB2.below hq3 hB2.lt
          have hb3 := hb2.trans (hq3.mono hb2.size)
          clear hA2 hB2 hb2 hq3 k0 k1 k2 k3 k4 k5 l0 l1 l2 l3 l4 l5
          obtain ⟨k0, k1, k2, k3, k4, k5⟩ := hd6 hA3
          obtain ⟨l0, l1, l2, l3, l4, l5⟩ := hd6 hB3
          go_wp2_with fail
          refine (HPA'.out _ (fun W hW => HT.out W (hb3.trans (hW.mono hb3.size)))).mono ?_
          rintro e w4 ⟨rfl, hq4⟩
          have hA4 := hA3.below hq4 hA3.lt
          have hB4 := hB3.below hq4 hB3.lt
          have hb4 := hb3.trans (hq4.mono hb3.size)
          clear hA3 hB3 hb3 hq4 k0 k1 k2 k3 k4 k5 l0 l1 l2 l3 l4 l5
          obtain ⟨k0, k1, k2, k3, k4, k5⟩ := hd6 hA4
          obtain ⟨l0, l1, l2, l3, l4, l5⟩ := hd6 hB4
          go_wp2_with fail
          refine (HPB'.out _ (fun W hW => HT.out W (hb4.trans (hW.mono hb4.size)))).mono ?_
          rintro e w5 ⟨rfl, hq5⟩
          have hA5 := hA4.below hq5 hA4.lt
          have hB5 := hB4.below hq5 hB4.lt
          have hb5 := hb4.trans (hq5.mono hb4.size)
          clear hA4 hB4 hb4 hq5 k0 k1 k2 k3 k4 k5 l0 l1 l2 l3 l4 l5
          obtain ⟨k0, k1, k2, k3, k4, k5⟩ := hd6 hA5
          obtain ⟨l0, l1, l2, l3, l4, l5⟩ := hd6 hB5
          go_wp2
          go_ret
          exact ⟨rfl, hb5⟩
        · have hne : ¬ str (printL a x) = str (printL b y) := fun h => heq (HINJ.out h).1
          have t1 := str_ne hne
          clear hne HINJ
          subst hxy
          generalize str (printL a x) = SA at *
          generalize str (printL b x) = SB at *
          have HEQ := Lib.hid heq; clear heq
          go_enter Tryd.func4, Tryd.ntmps4
          go_wp2_with fail
          refine (HAW.out _ hb0).mono ?_
          rintro e w1 ⟨rfl, hq1⟩
          have hA1 := hA0.below hq1 hA0.lt
          have hB1 := hB0.below hq1 hB0.lt
          have hb1 := hb0.trans (hq1.mono hb0.size)
          clear hA0 hB0 hb0 hq1 HAW
          obtain ⟨k0, k1, k2, k3, k4, k5⟩ := hd6 hA1
          obtain ⟨l0, l1, l2, l3, l4, l5⟩ := hd6 hB1
          go_wp2_with fail
          refine (HWA'.out _).mono ?_
          rintro e w2 ⟨rfl, hq2⟩
          have hA2 := hA1.below hq2 hA1.lt
          have hB2 := hB1.below hq2 hB1.lt
          have hb2 := hb1.trans (hq2.mono hb1.size)
          clear hA1 hB1 hb1 hq2 k0 k1 k2 k3 k4 k5 l0 l1 l2 l3 l4 l5
          obtain ⟨k0, k1, k2, k3, k4, k5⟩ := hd6 hA2
          obtain ⟨l0, l1, l2, l3, l4, l5⟩ := hd6 hB2
          go_wp2_with fail
          refine (HWB'.out _).mono ?_
          rintro e w3 ⟨rfl, hq3⟩
          have hA3 := hA2.below hq3 hA2.lt
          have hB3 := hB2.below hq3 hB2.lt
          have hb3 := hb2.trans (hq3.mono hb2.size)
          clear hA2 hB2 hb2 hq3 k0 k1 k2 k3 k4 k5 l0 l1 l2 l3 l4 l5
          obtain ⟨k0, k1, k2, k3, k4, k5⟩ := hd6 hA3
          obtain ⟨l0, l1, l2, l3, l4, l5⟩ := hd6 hB3
          go_wp2_with fail
          refine (HPA'.out _ (fun W hW => HT.out W (hb3.trans (hW.mono hb3.size)))).mono ?_
          rintro e w4 ⟨rfl, hq4⟩
          have hA4 := hA3.below hq4 hA3.lt
          have hB4 := hB3.below hq4 hB3.lt
          have hb4 := hb3.trans (hq4.mono hb3.size)
          clear hA3 hB3 hb3 hq4 k0 k1 k2 k3 k4 k5 l0 l1 l2 l3 l4 l5
          obtain ⟨k0, k1, k2, k3, k4, k5⟩ := hd6 hA4
          obtain ⟨l0, l1, l2, l3, l4, l5⟩ := hd6 hB4
          go_wp2_with fail
          refine (HPB'.out _ (fun W hW => HT.out W (hb4.trans (hW.mono hb4.size)))).mono ?_
          rintro e w5 ⟨rfl, hq5⟩
          have hA5 := hA4.below hq5 hA4.lt
          have hB5 := hB4.below hq5 hB4.lt
          have hb5 := hb4.trans (hq5.mono hb4.size)
          clear hA4 hB4 hb4 hq5 k0 k1 k2 k3 k4 k5 l0 l1 l2 l3 l4 l5
          obtain ⟨k0, k1, k2, k3, k4, k5⟩ := hd6 hA5
          obtain ⟨l0, l1, l2, l3, l4, l5⟩ := hd6 hB5
          go_wp2
          all_goals first
            | exact absurd (hd_eq (by assumption) (by assumption) (by assumption) (by assumption) (by assumption) (by assumption)) HEQ.out
            | (go_ret; exact ⟨rfl, hb5⟩)
      · have hne : ¬ str (printL a x) = str (printL b y) := fun h => hxy (HINJ.out h).2
        have t1 := str_ne hne
        clear hne HINJ
        have t2 : ((x : Int) == (y : Int)) = false := by rw [beq_eq_false_iff_ne]; omega
        clear hxy
        generalize str (printL a x) = SA at *
        generalize str (printL b y) = SB at *
        go_enter Tryd.func4, Tryd.ntmps4
        go_wp2_with fail
        refine (HAW.out _ hb0).mono ?_
        rintro e w1 ⟨rfl, hq1⟩
        have hA1 := hA0.below hq1 hA0.lt
        have hB1 := hB0.below hq1 hB0.lt
        have hb1 := hb0.trans (hq1.mono hb0.size)
        clear hA0 hB0 hb0 hq1 HAW
        obtain ⟨k0, k1, k2, k3, k4, k5⟩ := hd6 hA1
        obtain ⟨l0, l1, l2, l3, l4, l5⟩ := hd6 hB1
        go_wp2_with fail
        refine (HWA'.out _).mono ?_
        rintro e w2 ⟨rfl, hq2⟩
        have hA2 := hA1.below hq2 hA1.lt
        have hB2 := hB1.below hq2 hB1.lt
        have hb2 := hb1.trans (hq2.mono hb1.size)
        clear hA1 hB1 hb1 hq2 k0 k1 k2 k3 k4 k5 l0 l1 l2 l3 l4 l5
        obtain ⟨k0, k1, k2, k3, k4, k5⟩ := hd6 hA2
        obtain ⟨l0, l1, l2, l3, l4, l5⟩ := hd6 hB2
        go_wp2_with fail
        refine (HWB'.out _).mono ?_
        rintro e w3 ⟨rfl, hq3⟩
        have hA3 := hA2.below hq3 hA2.lt
        have hB3 := hB2.below hq3 hB2.lt
        have hb3 := hb2.trans (hq3.mono hb2.size)
        clear hA2 hB2 hb2 hq3 k0 k1 k2 k3 k4 k5 l0 l1 l2 l3 l4 l5
        obtain ⟨k0, k1, k2, k3, k4, k5⟩ := hd6 hA3
        obtain ⟨l0, l1, l2, l3, l4, l5⟩ := hd6 hB3
        go_wp2_with fail
        refine (HPA'.out _ (fun W hW => HT.out W (hb3.trans (hW.mono hb3.size)))).mono ?_
        rintro e w4 ⟨rfl, hq4⟩
        have hA4 := hA3.below hq4 hA3.lt
        have hB4 := hB3.below hq4 hB3.lt
        have hb4 := hb3.trans (hq4.mono hb3.size)
        clear hA3 hB3 hb3 hq4 k0 k1 k2 k3 k4 k5 l0 l1 l2 l3 l4 l5
        obtain ⟨k0, k1, k2, k3, k4, k5⟩ := hd6 hA4
        obtain ⟨l0, l1, l2, l3, l4, l5⟩ := hd6 hB4
        go_wp2_with fail
        refine (HPB'.out _ (fun W hW => HT.out W (hb4.trans (hW.mono hb4.size)))).mono ?_
        rintro e w5 ⟨rfl, hq5⟩
        have hA5 := hA4.below hq5 hA4.lt
        have hB5 := hB4.below hq5 hB4.lt
        have hb5 := hb4.trans (hq5.mono hb4.size)
        clear hA4 hB4 hb4 hq5 k0 k1 k2 k3 k4 k5 l0 l1 l2 l3 l4 l5
        obtain ⟨k0, k1, k2, k3, k4, k5⟩ := hd6 hA5
        obtain ⟨l0, l1, l2, l3, l4, l5⟩ := hd6 hB5
        go_wp2
        all_goals (go_ret; exact ⟨rfl, hb5⟩)
    · have hpb' : erAt (rightEr b) = (pb : Int) := by
        rcases hpb with h | h
        · exact absurd h hrb
        · exact h
      have hp1 : (0 : Int) ≤ (pb : Int) := by omega
      rw [hpb'] at HWB
      clear hpa hpb hpb' hra hrb
      unfold Hd.cells at *
      have HWA' := Lib.hid HWA; clear HWA
      have HWB' := Lib.hid HWB; clear HWB
      go_enter Tryd.func4, Tryd.ntmps4
      go_wp2_with fail
      refine (HAW.out _ hb0).mono ?_
      rintro e w1 ⟨rfl, hq1⟩
      have hA1 := hA0.below hq1 hA0.lt
      have hB1 := hB0.below hq1 hB0.lt
      have hb1 := hb0.trans (hq1.mono hb0.size)
      clear hA0 hB0 hb0 hq1
      obtain ⟨k0, k1, k2, k3, k4, k5⟩ := hd6 hA1
      obtain ⟨l0, l1, l2, l3, l4, l5⟩ := hd6 hB1
      go_wp2_with fail
      refine (HWA'.out _).mono ?_
      rintro e w2 ⟨rfl, hq2⟩
      have hA2 := hA1.below hq2 hA1.lt
      have hB2 := hB1.below hq2 hB1.lt
      have hb2 := hb1.trans (hq2.mono hb1.size)
      clear hA1 hB1 hb1 hq2 k0 k1 k2 k3 k4 k5 l0 l1 l2 l3 l4 l5
      obtain ⟨k0, k1, k2, k3, k4, k5⟩ := hd6 hA2
      obtain ⟨l0, l1, l2, l3, l4, l5⟩ := hd6 hB2
      go_wp2_with fail
      refine (HWB'.out _).mono ?_
      rintro e w3 ⟨rfl, hq3⟩
      have hb3 := hb2.trans (hq3.mono hb2.size)
      clear k0 k1 k2 k3 k4 k5 l0 l1 l2 l3 l4 l5
      go_wp2_with fail
      refine (HAW.out _ hb3).mono ?_
      rintro e w4 ⟨rfl, hq4⟩
      have hb4 := hb3.trans (hq4.mono hb3.size)
      go_wp2
      go_ret
      exact ⟨rfl, hb4⟩
  · have hpa' : erAt (rightEr a) = (pa : Int) := by
      rcases hpa with h | h
      · exact absurd h hra
      · exact h
    have hp1 : (0 : Int) ≤ (pa : Int) := by omega
    rw [hpa'] at HWA
    clear hpa hpb hpa' hra HWB
    unfold Hd.cells at *
    have HWA' := Lib.hid HWA; clear HWA
    go_enter Tryd.func4, Tryd.ntmps4
    go_wp2_with fail
    refine (HAW.out _ hb0).mono ?_
    rintro e w1 ⟨rfl, hq1⟩
    have hA1 := hA0.below hq1 hA0.lt
    have hB1 := hB0.below hq1 hB0.lt
    have hb1 := hb0.trans (hq1.mono hb0.size)
    clear hA0 hB0 hb0 hq1
    obtain ⟨k0, k1, k2, k3, k4, k5⟩ := hd6 hA1
    obtain ⟨l0, l1, l2, l3, l4, l5⟩ := hd6 hB1
    go_wp2_with fail
    refine (HWA'.out _).mono ?_
    rintro e w2 ⟨rfl, hq2⟩
    have hb2 := hb1.trans (hq2.mono hb1.size)
    clear k0 k1 k2 k3 k4 k5 l0 l1 l2 l3 l4 l5
    go_wp2_with fail
    refine (HAW.out _ hb2).mono ?_
    rintro e w4 ⟨rfl, hq4⟩
    have hb4 := hb2.trans (hq4.mono hb2.size)
    go_wp2
    go_ret
    exact ⟨rfl, hb4⟩
end Go.Proofs.YtcjnkobddeiahaaDoor
