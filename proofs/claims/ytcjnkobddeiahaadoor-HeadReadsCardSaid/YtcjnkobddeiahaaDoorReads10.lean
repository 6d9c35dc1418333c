/- lockboxlaw10.HeadReads: the walk. -/
import Derived.Test.YtcjnkobddeiahaaDoorPrints10
namespace Go.Proofs.YtcjnkobddeiahaaDoor
open Go Go.RowKit Pr

set_option maxHeartbeats 4000000 in
set_option maxRecDepth 100000 in
theorem reads10 (s : ByteArray) (hs : s.size ≤ 140737488351232) (w : World) (hG : EtOk w) (hT : TabOk w) :
    Calls Tryd.prog 6 #[.string s] w fun e w' => e = .returned (.bool true) ∧ Below w.heap.size w w' := by
  have HP := fun W hG => parse_any s hs W hG
  have HRP := fun (h : 16 ≤ s.size) W => refParse_any s h hs W _ rfl
  have HAW := Lib.hid (fun W (hb : Below w.heap.size w W) => awake10_any W (hG.below hb (Nat.le_refl _)) (hT.below hb))
  have hshort : s.size < 16 → parseEr s = .no 2 ∧ parseHd s = Hd.zero ∧ parseN s = 0 := fun h => by
    have e1 : parseEr s = .no 2 := by unfold parseEr; rw [if_pos h]
    exact ⟨e1, by unfold parseHd; rw [e1]; rfl, by unfold parseN; rw [e1]; rfl⟩
  have HSH := Lib.hid hshort; clear hshort
  have e1 : (if isOk (parseEr s) then hdOf s else Hd.zero) = parseHd s := rfl
  have e2 : (if isOk (parseEr s) then numOf s else 0) = parseN s := rfl
  rw [e1, e2] at HRP
  have hpc : ∃ p : Nat, s.size < 16 ∨ parseEr s = .ok ∨ (parseEr s = .fa p 6 ∧ parseHd s = Hd.zero ∧ parseN s = 0) := by
    have hk : ∀ p : Nat, parseEr s = .fa p 6 → parseEr s = .fa p 6 ∧ parseHd s = Hd.zero ∧ parseN s = 0 := fun p h => ⟨h, by unfold parseHd; rw [h]; rfl, by unfold parseN; rw [h]; rfl⟩
    by_cases h16 : s.size < 16
    · exact ⟨0, .inl h16⟩
    · have hE : parseEr s = pE (rightEr (hdOf s)) (numOf s) (decide (s.extract 12 16 = z4)) := by unfold parseEr; rw [if_neg h16]
      have hrc := rightEr_cases (hdOf s)
      have hcc : ∃ p : Nat, parseEr s = .ok ∨ parseEr s = .fa p 6 := by
        rw [hE]
        unfold pE
        rcases hrc with h | ⟨p, h, _⟩
        · rw [h]
          repeat' split
          all_goals first | exact ⟨0, .inl rfl⟩ | exact ⟨1, .inr rfl⟩ | exact ⟨12, .inr rfl⟩
        · rw [h]
          repeat' split
          all_goals first | exact ⟨p, .inr rfl⟩ | exact ⟨1, .inr rfl⟩ | exact ⟨12, .inr rfl⟩ | exact ⟨0, .inl rfl⟩
      obtain ⟨p, h | h⟩ := hcc
      · exact ⟨p, .inr (.inl h)⟩
      · exact ⟨p, .inr (.inr (hk p h))⟩
  generalize parseEr s = pe at *
  generalize parseHd s = ph at *
  generalize parseN s = pn at *
  unfold Hd.cells at HP HRP
  have HP := Lib.hid HP
  have HRP := Lib.hid HRP
  have HPC := Lib.hid hpc; clear hpc e1 e2
  clear hT
  go_enter Tryd.func6, Tryd.ntmps6
  go_wp2_with fail
  refine (HAW.out _ (Below.refl _ _)).mono ?_
  rintro e w1 ⟨rfl, hb1⟩
  by_cases hbig : (s.size : Int) ≤ 200
  · clear HAW
    go_wp2_with fail
    refine (HP.out _ (hG.below hb1 (Nat.le_refl _))).mono ?_
    rintro e w2 ⟨⟨v, rfl, hv⟩, hq2⟩
    have hb2 := hb1.trans (hq2.mono hb1.size)
    by_cases h16 : s.size < 16
    · have h16' : (s.size : Int) < 16 := by omega
      obtain ⟨rfl, rfl, rfl⟩ := HSH.out h16
      unfold Hd.zero
      obtain rfl : v = _ := hv
      have hb3 := hb2.alloc hb2.size (.cells #[.int .u8 0, .string ⟨#[]⟩, .int .u8 0, .int .u8 0, .string ⟨#[]⟩, .int .u8 0] 23)
      go_wp2_with fail
      refine (code_any _ (.no 2) 0 _ rfl (hG.below hb3 (Nat.le_refl _))).mono ?_
      rintro e w3 ⟨rfl, hq3⟩
      have f1 : erCode (.no 2) = 2 := rfl
      have hB3 := (Blk.new w2 23 #[.int .u8 0, .string ⟨#[]⟩, .int .u8 0, .int .u8 0, .string ⟨#[]⟩, .int .u8 0]).below hq3 (by simp)
      obtain ⟨k0, k1, k2, k3, k4, k5⟩ := hd6 hB3
      go_wp2
      go_ret
      exact ⟨rfl, hb3.trans (hq3.mono hb3.size)⟩
    · have h16' : ¬ (s.size : Int) < 16 := by omega
      have HRQ := Lib.hid (HRP.out (by omega))
      obtain ⟨p, hp⟩ := HPC.out
      rcases hp with h | h | ⟨h1, h2, h3⟩
      · exact absurd h h16
      · subst h
        obtain rfl : v = _ := hv
        have f0 : erAt .ok = -1 := rfl
        clear HPC HSH HRP HP
        generalize ph.ver.toNat = v0 at *
        generalize ph.usage = v1 at *
        generalize ph.alg.toNat = v2 at *
        generalize ph.mode.toNat = v3 at *
        generalize ph.serial = v4 at *
        generalize ph.exp.toNat = v5 at *
        have hB2 := Blk.new w2 23 #[.int .u8 (v0 : Int), .string v1, .int .u8 (v2 : Int), .int .u8 (v3 : Int), .string v4, .int .u8 (v5 : Int)]
        have hb3 := hb2.alloc hb2.size (.cells #[.int .u8 (v0 : Int), .string v1, .int .u8 (v2 : Int), .int .u8 (v3 : Int), .string v4, .int .u8 (v5 : Int)] 23)
        go_wp2_with fail
        refine (HRQ.out _).mono ?_
        rintro e w3 ⟨rfl, hq3⟩
        have hB3 := (hB2.below hq3 hB2.lt).alloc (.cells #[.int .u8 (v0 : Int), .string v1, .int .u8 (v2 : Int), .int .u8 (v3 : Int), .string v4, .int .u8 (v5 : Int)] 23)
        have hB4 := Blk.new w3 23 #[.int .u8 (v0 : Int), .string v1, .int .u8 (v2 : Int), .int .u8 (v3 : Int), .string v4, .int .u8 (v5 : Int)]
        have hb4 := (hb3.trans (hq3.mono hb3.size)).alloc (hb3.trans (hq3.mono hb3.size)).size (.cells #[.int .u8 (v0 : Int), .string v1, .int .u8 (v2 : Int), .int .u8 (v3 : Int), .string v4, .int .u8 (v5 : Int)] 23)
        obtain ⟨k0, k1, k2, k3, k4, k5⟩ := hd6 hB3
        obtain ⟨m0, m1, m2, m3, m4, m5⟩ := hd6 hB4
        go_wp2
        go_ret
        exact ⟨rfl, hb4⟩
      · subst h1 h2 h3
        have f0 : erAt (.fa (p : Int) 6) = (p : Int) := rfl
        have fc : erCode (.fa (p : Int) 6) = 6 := rfl
        have f1 : (0 : Int) ≤ (p : Int) := by omega
        clear HPC HSH HRP HP
        unfold Hd.zero at *
        have hB2 := Blk.new w2 23 #[.int .u8 0, .string ⟨#[]⟩, .int .u8 0, .int .u8 0, .string ⟨#[]⟩, .int .u8 0]
        have hb3 := hb2.alloc hb2.size (.cells #[.int .u8 0, .string ⟨#[]⟩, .int .u8 0, .int .u8 0, .string ⟨#[]⟩, .int .u8 0] 23)
        go_wp2_with fail
        refine (HRQ.out _).mono ?_
        rintro e w3 ⟨rfl, hq3⟩
        have hB3 := (hB2.below hq3 hB2.lt).alloc (.cells #[.int .u8 0, .string ⟨#[]⟩, .int .u8 0, .int .u8 0, .string ⟨#[]⟩, .int .u8 0] 23)
        have hb3' := hb3.trans (hq3.mono hb3.size)
        have hv3 := ((hv.below ((Below.refl w2.heap.size w2).alloc (Nat.le_refl _) (.cells #[.int .u8 0, .string ⟨#[]⟩, .int .u8 0, .int .u8 0, .string ⟨#[]⟩, .int .u8 0] 23)) (Nat.le_refl _)).below hq3 (Nat.le_refl _)).below ((Below.refl w3.heap.size w3).alloc (Nat.le_refl _) (.cells #[.int .u8 0, .string ⟨#[]⟩, .int .u8 0, .int .u8 0, .string ⟨#[]⟩, .int .u8 0] 23)) (Nat.le_refl _)
        have hb4 := hb3'.alloc hb3'.size (.cells #[.int .u8 0, .string ⟨#[]⟩, .int .u8 0, .int .u8 0, .string ⟨#[]⟩, .int .u8 0] 23)
        clear hv hB2 hb3 hq3 hb3'
        go_wp2_with fail
        refine (code_any _ _ _ _ hv3 (hG.below hb4 (Nat.le_refl _))).mono ?_
        rintro e w5 ⟨rfl, hq5⟩
        have hb5 := hb4.trans (hq5.mono hb4.size)
        have hv5 := hv3.below hq5 (Nat.le_refl _)
        have hB5 := hB3.below hq5 hB3.lt
        go_wp2_with fail
        refine (at_any _ _ _ _ hv5 (hG.below hb5 (Nat.le_refl _))).mono ?_
        rintro e w6 ⟨rfl, hq6⟩
        have hb6 := hb5.trans (hq6.mono hb5.size)
        have hB6 := hB5.below hq6 hB5.lt
        obtain ⟨k0, k1, k2, k3, k4, k5⟩ := hd6 hB6
        go_wp2
        go_ret
        exact ⟨rfl, hb6⟩
  · go_wp2_with fail
    refine (HAW.out _ hb1).mono ?_
    rintro e w2 ⟨rfl, hq2⟩
    have hb2 := hb1.trans (hq2.mono hb1.size)
    go_wp2
    go_ret
    exact ⟨rfl, hb2⟩
end Go.Proofs.YtcjnkobddeiahaaDoor
