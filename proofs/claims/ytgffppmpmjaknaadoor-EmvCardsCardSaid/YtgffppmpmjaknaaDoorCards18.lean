/- lockboxlaw18.EmvCards: the walk. -/
import Derived.Test.YtgffppmpmjaknaaDoorRef18C
namespace Go.Proofs.YtgffppmpmjaknaaDoor
open Go Go.RowKit Pr

theorem cardVal_lt (key : List Nat) (pan seq : List UInt8) : ∀ c ∈ cardVal key pan seq, c < 256 := by
  by_cases h : cardEr key.length pan seq = .ok
  · rw [cardVal_ok h]; exact cardN_lt _ _ _
  · rw [cardVal_bad h]; intro c hc; cases hc
theorem cardVal_len (key : List Nat) (pan seq : List UInt8) : (cardVal key pan seq).length ≤ 16 := by
  by_cases h : cardEr key.length pan seq = .ok
  · rw [cardVal_ok h, cardN_len]; exact Nat.le_refl _
  · rw [cardVal_bad h]; simp

set_option maxHeartbeats 2000000 in
set_option maxRecDepth 100000 in
theorem cards18 (w : World) (l : List Nat) (hb : ∀ c ∈ l, c < 256) (A : Option Addr) (cp : Nat) (hcp : l.length ≤ cp) (_hlen : l.length ≤ 140737488351232) (hA : At w A l) (pan : ByteArray) (hp : pan.size ≤ 140737488351232) (seq : ByteArray) (hs : seq.size ≤ 140737488351232) (hG : EtOk w) :
    Calls Tryd.prog 8 #[.slice A l.length cp, .string pan, .string seq] w fun e w' => e = .returned (.bool true) ∧ Below w.heap.size w w' := by
  have hAt : ∀ W, Below w.heap.size w W → At W A l := fun W hW => hA.below hW (Nat.le_refl _)
  have HAT := Lib.hid hAt; clear hAt hA
  have HO := Lib.hid (fun W hA => card_any l hb A cp hcp pan seq hp W hA)
  have HR := Lib.hid (fun h1 h2 W hA => refCard_any l hb A cp hcp pan seq h1 h2 W hA)
  have hVt := cardVal_lt l pan.data.toList seq.data.toList
  have hVl := cardVal_len l pan.data.toList seq.data.toList
  generalize cardVal l pan.data.toList seq.data.toList = V at *
  generalize cardEr l.length pan.data.toList seq.data.toList = er at *
  generalize l.length = n at *
  have hbig : ∀ (b1 b2 b3 : Prop), True := fun _ _ _ => trivial
  by_cases h1 : 100 < n
  · have hi1 : (100 : Int) < (n : Int) := by omega
    go_enter Tryd.func8, Tryd.ntmps8
    go_wp2_with fail
    refine (awake18_any _ hG).mono ?_
    rintro e w1 ⟨rfl, hb⟩
    go_wp2_with fail
    refine (awake18_any _ (hG.below hb (Nat.le_refl _))).mono ?_
    rintro e w2 ⟨rfl, hb2⟩
    go_wp2
    go_ret
    exact ⟨rfl, hb.trans (hb2.mono hb.size)⟩
  · have hi1 : ¬ (100 : Int) < (n : Int) := by omega
    by_cases h2 : 100 < pan.size
    · have hi2 : (100 : Int) < (pan.size : Int) := by omega
      go_enter Tryd.func8, Tryd.ntmps8
      go_wp2_with fail
      refine (awake18_any _ hG).mono ?_
      rintro e w1 ⟨rfl, hb⟩
      go_wp2_with fail
      refine (awake18_any _ (hG.below hb (Nat.le_refl _))).mono ?_
      rintro e w2 ⟨rfl, hb2⟩
      go_wp2
      go_ret
      exact ⟨rfl, hb.trans (hb2.mono hb.size)⟩
    · have hi2 : ¬ (100 : Int) < (pan.size : Int) := by omega
      by_cases h3 : 100 < seq.size
      · have hi3 : (100 : Int) < (seq.size : Int) := by omega
        go_enter Tryd.func8, Tryd.ntmps8
        go_wp2_with fail
        refine (awake18_any _ hG).mono ?_
        rintro e w1 ⟨rfl, hb⟩
        go_wp2_with fail
        refine (awake18_any _ (hG.below hb (Nat.le_refl _))).mono ?_
        rintro e w2 ⟨rfl, hb2⟩
        go_wp2
        go_ret
        exact ⟨rfl, hb.trans (hb2.mono hb.size)⟩
      · have hi3 : ¬ (100 : Int) < (seq.size : Int) := by omega
        go_enter Tryd.func8, Tryd.ntmps8
        go_wp2_with fail
        refine (awake18_any _ hG).mono ?_
        rintro e w1 ⟨rfl, hb1⟩
        go_wp2_with fail
        refine (HO.out _ (HAT.out _ hb1)).mono ?_
        rintro e w2 ⟨⟨v, u, rfl, hv, hu⟩, hb2⟩
        have hbel2 := hb1.trans (hb2.mono hb1.size)
        obtain ⟨A1, c1, rfl, -, hN1⟩ := OwnN.form (e := 5) (kd := .u8) hv
        have hN1 : At w2 A1 V := hN1
        clear hv
        go_wp2_with fail
        refine (HR.out (by omega) (by omega) _ (HAT.out _ hbel2)).mono ?_
        rintro e w3 ⟨⟨v, rfl, hv⟩, hb3⟩
        have hbel3 := hbel2.trans (hb3.mono hbel2.size)
        obtain ⟨A2, c2, rfl, -, hN2⟩ := OwnN.form (e := 5) (kd := .u8) hv
        have hN2 : At w3 A2 V := hN2
        have hN13 : At w3 A1 V := hN1.below hb3 (Nat.le_refl _)
        have hu3 := hu.below hb3 (Nat.le_refl _)
        have HU3 := Lib.hid hu3; clear hu3 hu hv
        have HSM := Lib.hid (same_any V V A1 A2 c1 c2 hVt hVt (by omega) w3 hN13 hN2)
        rw [show decide (V = V) = true by simp] at HSM
        generalize V.length = m at *
        clear hN1 hN2 hN13
        go_wp2_with fail
        refine HSM.out.mono ?_
        rintro e w4 ⟨rfl, n4, rfl⟩
        have hbel4 := below_drewN hbel3 n4
        go_wp2_with fail
        refine (code_any _ _ _ _ (HU3.out.drewN n4) (hG.below hbel4 (Nat.le_refl _))).mono ?_
        rintro e w5 ⟨rfl, hb5⟩
        have hbel5 := hbel4.trans (hb5.mono hbel4.size)
        have hu5 := (HU3.out.drewN n4).below hb5 (Nat.le_refl _)
        have HU5 := Lib.hid hu5; clear hu5
        go_wp2_with fail
        refine (at_any _ _ _ _ HU5.out (hG.below hbel5 (Nat.le_refl _))).mono ?_
        rintro e w6 ⟨rfl, hb6⟩
        have hbel6 := hbel5.trans (hb6.mono hbel5.size)
        go_wp2
        go_ret
        exact ⟨rfl, hbel6⟩
end Go.Proofs.YtgffppmpmjaknaaDoor
