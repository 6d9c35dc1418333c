/- head.Print of whatever head and length. -/
import Derived.Test.YtcjnkobddeiahaaDoorHeadE
namespace Go.Proofs.YtcjnkobddeiahaaDoor
open Go Go.RowKit Pr
def isOk : Er → Bool
  | .ok => true
  | _ => false
theorem isOk_true {e : Er} (h : isOk e = true) : e = .ok := by cases e <;> first | rfl | cases h
def printEr (h : Hd) (n : Int) : Er := if isOk (rightEr h) then (if n < 16 ∨ 9999 < n then .no 1 else .ok) else rightEr h
def printS (h : Hd) (n : Int) : ByteArray := if isOk (printEr h n) then str (printL h n.toNat) else ⟨#[]⟩

set_option maxHeartbeats 1000000 in
theorem print_any (h : Hd) (hu : h.usage.size ≤ 140737488351232) (hs : h.serial.size ≤ 140737488351232) (n : Int) (w : World) (hT : ∀ W, Below w.heap.size w W → TabOk W) :
    Calls Tryd.prog 9 #[.agg h.cells, .int .i64 n] w fun e w' => (∃ v, e = .returned (.tuple #[.string (printS h n), v]) ∧ ErIs w' w.heap.size v (printEr h n)) ∧ Below w.heap.size w w' := by
  have hb0 : ∀ cs, Below w.heap.size w (w.alloc (.cells cs 23)) := fun cs => (Below.refl _ _).alloc (Nat.le_refl _) _
  rcases rightEr_cases h with hr | ⟨k, hr, _⟩
  · by_cases hn : n < 16 ∨ 9999 < n
    · have he : printEr h n = .no 1 := by unfold printEr; rw [hr, if_pos (show isOk .ok = true from rfl), if_pos hn]
      have hS : printS h n = ⟨#[]⟩ := by unfold printS; rw [he, if_neg (by intro h; cases h)]
      rw [he, hS]
      have HRI := Lib.hid (fun W => right_any h (by omega) (by omega) W)
      rw [hr] at HRI
      clear he hS hr
      have HN := Lib.hid hn; clear hn
      have hbw := hb0 h.cells; clear hb0
      unfold Hd.cells at *
      generalize h.ver.toNat = v0 at *
      generalize h.usage = v1 at *
      generalize h.alg.toNat = v2 at *
      generalize h.mode.toNat = v3 at *
      generalize h.serial = v4 at *
      generalize h.exp.toNat = v5 at *
      go_enter Tryd.func9, Tryd.ntmps9
      go_wp2_with fail
      refine (HRI.out _).mono ?_
      rintro e w1 ⟨⟨v, rfl, hv⟩, hb1⟩
      obtain rfl : v = _ := hv
      have hb2 := hbw.trans (hb1.mono (by simp))
      clear hb1 hbw
      by_cases h1 : n < 16
      · go_wp2
        go_ret2
        exact ⟨⟨_, rfl, rfl⟩, hb2⟩
      · have h2 : 9999 < n := by rcases HN.out with h | h <;> omega
        go_wp2
        go_ret2
        exact ⟨⟨_, rfl, rfl⟩, hb2⟩
    · have he : printEr h n = .ok := by unfold printEr; rw [hr, if_pos (show isOk .ok = true from rfl), if_neg hn]
      have hS : printS h n = str (printL h n.toNat) := by unfold printS; rw [he, if_pos (show isOk .ok = true from rfl)]
      rw [he, hS]
      have hp := print_ok h hr n.toNat (by omega) (by omega) w hT
      rw [show ((n.toNat : Nat) : Int) = n by omega] at hp
      refine hp.mono ?_
      rintro e w' ⟨rfl, hb⟩
      exact ⟨⟨_, rfl, rfl⟩, hb⟩
  · have he : printEr h n = .fa k 6 := by unfold printEr; rw [hr, if_neg (by intro h; cases h)]
    have hS : printS h n = ⟨#[]⟩ := by unfold printS; rw [he, if_neg (by intro h; cases h)]
    rw [he, hS]
    have HRI := Lib.hid (fun W => right_any h (by omega) (by omega) W)
    rw [hr] at HRI
    clear he hS hr
    have hbw := hb0 h.cells; clear hb0
    unfold Hd.cells at *
    generalize h.ver.toNat = v0 at *
    generalize h.usage = v1 at *
    generalize h.alg.toNat = v2 at *
    generalize h.mode.toNat = v3 at *
    generalize h.serial = v4 at *
    generalize h.exp.toNat = v5 at *
    go_enter Tryd.func9, Tryd.ntmps9
    go_wp2_with fail
    refine (HRI.out _).mono ?_
    rintro e w1 ⟨⟨v, rfl, hv⟩, hb1⟩
    have hb2 := hbw.trans (hb1.mono (by simp))
    have hv2 := hv.more (C := w.heap.size) (by simp)
    obtain ⟨g, rfl, hg⟩ := hv
    have HV := Lib.hid hv2
    clear hb1 hbw hg hv2
    go_wp2
    go_ret2
    exact ⟨⟨_, rfl, HV.out⟩, hb2⟩
end Go.Proofs.YtcjnkobddeiahaaDoor
