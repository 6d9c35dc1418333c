/- head.ahead, head.Fits; how a length is printed. -/
import Derived.Test.YtcjnkobddeiahaaDoorHeadC
import Derived.Lib.ItoaNum
namespace Go.Proofs.YtcjnkobddeiahaaDoor
open Go Go.RowKit Pr

theorem as_nil (v : Value) (w : World) : Calls Tryd.prog 27 #[.nilIface, v] w fun e w' => e = .returned (.bool false) ∧ w = w' := by
  go_enter Tryd.func27, Tryd.ntmps27
  go_wp2
  go_ret
  exact ⟨rfl, rfl⟩
def aheadB : Er → Bool
  | .fa p _ => p == 0
  | _ => false

set_option maxHeartbeats 1000000 in
theorem ahead_any (v : Value) (er : Er) (hno : ∀ n, er ≠ .no n) (B : Nat) (w : World) (hE : ErIs w B v er) (hG : EtOk w) :
    Calls Tryd.prog 21 #[v] w fun e w' => e = .returned (.bool (aheadB er)) ∧ Below w.heap.size w w' := by
  have hb0 : Below w.heap.size w (w.alloc (.cells #[.pointer none] 53)) := (Below.refl _ _).alloc (Nat.le_refl _) _
  have hN := Blk.new w 53 #[.pointer none]
  have hc := hN.cell 0
  rw [show (#[Value.pointer none] : Array Value)[0]? = some (.pointer none) from rfl] at hc
  have hf := hN.frozen 0
  have hG1 := hG.alloc (.cells #[.pointer none] 53)
  cases er with
  | no n => exact absurd rfl (hno n)
  | ok =>
    obtain rfl : v = _ := hE
    have HA := Lib.hid (as_nil (.iface 54 (.pointer (some ⟨w.heap.size, 0, none⟩))) (w.alloc (.cells #[.pointer none] 53)))
    clear hG1 hc hf
    go_enter Tryd.func21, Tryd.ntmps21
    go_wp2_with fail
    refine HA.out.mono ?_
    rintro e w' ⟨rfl, rfl⟩
    go_wp2
    go_ret
    exact ⟨rfl, hb0⟩
  | fa p n =>
    obtain ⟨g, rfl, hg, hF⟩ := hE
    have HA := Lib.hid (as_fa_fa ⟨g, 0, none⟩ ⟨w.heap.size, 0, none⟩ (.pointer none) _ hG1 hc hf)
    have hs := hN.lt
    have hgl := hF.lt
    clear hG1 hc hf
    go_enter Tryd.func21, Tryd.ntmps21
    go_wp2_with fail
    refine HA.out.mono ?_
    rintro e w' ⟨rfl, w1, hb1, rfl⟩
    have hN1 := (hN.below hb1 hs).set_ 0 (.pointer (some ⟨g, 0, none⟩))
    have hc1 := hN1.cell 0
    rw [show ((#[Value.pointer none] : Array Value).setIfInBounds 0 (.pointer (some ⟨g, 0, none⟩)))[0]? = some (.pointer (some ⟨g, 0, none⟩)) from rfl] at hc1
    have hbb := below_setCell hb0 hb1 (Nat.le_of_lt hs) ⟨w.heap.size, 0, none⟩ (Nat.le_refl _) (.pointer (some ⟨g, 0, none⟩))
    have hF1 := (hF.below hbb hgl).cell 0
    rw [show (#[Value.int .i64 p, .iface 44 (.int .i64 (n : Int))] : Array Value)[0]? = some (.int .i64 p) from rfl] at hF1
    clear hN1 hN hb1 hb0 HA hG hs hF
    generalize w1.setCell ⟨w.heap.size, 0, none⟩ (.pointer (some ⟨g, 0, none⟩)) = w2 at *
    go_wp2
    go_ret
    exact ⟨rfl, hbb⟩

def fitEr (h : Hd) (usage : ByteArray) (mode : UInt8) : Er := if h.usage ≠ usage then .fa 5 5 else if h.mode ≠ mode ∧ h.mode ≠ 78 then .fa 8 5 else .ok
theorem str_ne {a b : ByteArray} (h : ¬ a = b) : (a.toList == b.toList) = false := by
  rw [beq_eq_false_iff_ne, ByteArray.toList_eq, ByteArray.toList_eq]
  intro h2
  apply h
  apply ByteArray.ext
  exact Array.toList_inj.1 h2

set_option maxHeartbeats 1000000 in
theorem fits_any (h : Hd) (usage : ByteArray) (mode : UInt8) (w : World) :
    Calls Tryd.prog 17 #[.agg h.cells, .string usage, .int .u8 (mode.toNat : Int)] w fun e w' => (∃ v, e = .returned v ∧ ErIs w' w.heap.size v (fitEr h usage mode)) ∧ Below w.heap.size w w' := by
  obtain ⟨R, hR⟩ : ∃ R, fitEr h usage mode = R := ⟨_, rfl⟩
  rw [hR]
  unfold fitEr at hR
  unfold Hd.cells
  have hb0 : Below w.heap.size w (w.alloc (.cells #[.int .u8 (h.ver.toNat : Int), .string h.usage, .int .u8 (h.alg.toNat : Int), .int .u8 (h.mode.toNat : Int), .string h.serial, .int .u8 (h.exp.toNat : Int)] 23)) := (Below.refl _ _).alloc (Nat.le_refl _) _
  have hm : ∀ a b : UInt8, ((a.toNat : Int) != (b.toNat : Int)) = decide (a ≠ b) := fun a b => by
    by_cases h : a = b
    · subst h; simp
    · rw [decide_eq_true h, bne_iff_ne]
      intro h2
      exact h (UInt8.toNat_inj.1 (by omega))
  have h78 : ∀ a : UInt8, ((a.toNat : Int) != 78) = decide (a ≠ 78) := fun a => hm a 78
  by_cases h1 : h.usage = usage
  · rw [if_neg (by simpa using h1)] at hR
    by_cases h2 : h.mode = mode
    · rw [if_neg (by simp [h2])] at hR
      have t1 := hm h.mode mode
      rw [decide_eq_false (by simpa using h2)] at t1
      subst hR
      subst h1
      clear hm h78 h2
      generalize h.mode.toNat = m at *
      generalize mode.toNat = m2 at *
      go_enter Tryd.func17, Tryd.ntmps17
      go_wp2
      go_ret
      exact ⟨⟨_, rfl, rfl⟩, hb0⟩
    · have t1 := hm h.mode mode
      rw [decide_eq_true (by simpa using h2)] at t1
      by_cases h3 : h.mode = 78
      · rw [if_neg (by simp [h3])] at hR
        have t2 := h78 h.mode
        rw [decide_eq_false (by simpa using h3)] at t2
        subst hR
        subst h1
        clear hm h78 h2 h3
        generalize h.mode.toNat = m at *
        generalize mode.toNat = m2 at *
        go_enter Tryd.func17, Tryd.ntmps17
        go_wp2
        go_ret
        exact ⟨⟨_, rfl, rfl⟩, hb0⟩
      · rw [if_pos ⟨h2, h3⟩] at hR
        have t2 := h78 h.mode
        rw [decide_eq_true (by simpa using h3)] at t2
        subst hR
        subst h1
        clear hm h78 h2 h3
        generalize h.mode.toNat = m at *
        generalize mode.toNat = m2 at *
        go_enter Tryd.func17, Tryd.ntmps17
        go_wp2
        go_ret
        exact ⟨⟨_, rfl, _, rfl, by simp, by simpa using Blk.new2 w _ _ _⟩, hb0.alloc (by simp) _⟩
  · rw [if_pos h1] at hR
    subst hR
    have t1 := str_ne h1
    clear hm h78
    generalize h.usage = us at *
    go_enter Tryd.func17, Tryd.ntmps17
    go_wp2
    go_ret
    exact ⟨⟨_, rfl, _, rfl, by simp, by simpa using Blk.new2 w _ _ _⟩, hb0.alloc (by simp) _⟩

/-- four decimal digits -/
def dig4 (n : Nat) : List UInt8 := [UInt8.ofNat (48 + n / 1000), UInt8.ofNat (48 + n / 100 % 10), UInt8.ofNat (48 + n / 10 % 10), UInt8.ofNat (48 + n % 10)]
theorem itoa4 (n : Nat) (h1 : 16 ≤ n) (h2 : n ≤ 9999) : (Lib.itoa (n : Int)).length ≤ 4 ∧ Lib.repeatL [48] (4 - (Lib.itoa (n : Int)).length) ++ Lib.itoa (n : Int) = dig4 n := by
  have e0 : Lib.itoa (n : Int) = Lib.decDigits n := by unfold Lib.itoa; rw [if_neg (by omega)]; rfl
  rw [e0]
  unfold dig4
  by_cases h3 : n < 100
  · rw [Lib.decDigits, dif_neg (by omega), Lib.decDigits, dif_pos (by omega), show n / 1000 = 0 by omega, show n / 100 % 10 = 0 by omega, show n / 10 % 10 = n / 10 by omega]
    exact ⟨by simp, rfl⟩
  · by_cases h4 : n < 1000
    · rw [Lib.decDigits, dif_neg (by omega), Lib.decDigits, dif_neg (by omega), Lib.decDigits, dif_pos (by omega), show n / 1000 = 0 by omega, show n / 100 % 10 = n / 10 / 10 by omega]
      exact ⟨by simp, rfl⟩
    · rw [Lib.decDigits, dif_neg (by omega), Lib.decDigits, dif_neg (by omega), Lib.decDigits, dif_neg (by omega), Lib.decDigits, dif_pos (by omega), show n / 1000 = n / 10 / 10 / 10 by omega, show n / 100 % 10 = n / 10 / 10 % 10 by omega]
      exact ⟨by simp, rfl⟩
end Go.Proofs.YtcjnkobddeiahaaDoor
