/- head.one, head.letters, head.wrong, head.number, and the reference's in, pair. -/
import Derived.Test.YtcjnkobddeiahaaDoorCode
import Derived.Test.YtcjnkobddeiahaaDoorPureAll
namespace Go.Proofs.YtcjnkobddeiahaaDoor
open Go Go.RowKit Pr
namespace Pr
def isLet (c : UInt8) : Bool := decide (65 ≤ c.toNat ∧ c.toNat ≤ 90) || decide (48 ≤ c.toNat ∧ c.toNat ≤ 57)
def letB (l : List UInt8) : Bool := decide (l.length = 2) && l.all isLet
def numZ (l : List UInt8) : Int := if l.all isDec then ((l.foldl (fun a c => 10 * a + (c.toNat - 48)) 0 : Nat) : Int) else -1
def allLet : List UInt8 := [65, 66, 67, 68, 69, 70, 71, 72, 73, 74, 75, 76, 77, 78, 79, 80, 81, 82, 83, 84, 85, 86, 87, 88, 89, 90, 48, 49, 50, 51, 52, 53, 54, 55, 56, 57]
theorem isIn_let (c : UInt8) : isIn allLet c = isLet c := all_u8 (p := fun c => isIn allLet c = isLet c) (by decide +kernel) c
end Pr

theorem one_any (c : UInt8) (x : Int) (hx : x = c.toNat) (s : ByteArray) (w : World) :
    Calls Tryd.prog 23 #[.int .u8 x, .string s] w fun e w' => e = .returned (.bool (isIn s.data.toList c)) ∧ w = w' := by
  subst hx
  have hix := fun W => Tryd.strings_IndexByte s (c.toNat : Int) W
  have hcc : ((c.toNat : Int)).toNat.toUInt8 = c := by simp
  rw [hcc] at hix
  have hr : isIn s.data.toList c = decide (0 ≤ Lib.indexByte s.data.toList c) := rfl
  rw [hr]
  generalize Lib.indexByte s.data.toList c = z at *
  have HIX := Lib.hid hix; clear hix
  clear hcc hr
  go_enter Tryd.func23, Tryd.ntmps23
  go_wp2_with fail
  refine (HIX.out _).mono ?_
  rintro e w1 ⟨rfl, rfl⟩
  go_wp2
  go_ret
  exact ⟨rfl, rfl⟩

theorem wrongH_any (p : Int) (w : World) :
    Calls Tryd.prog 22 #[.int .i64 p] w fun e w' => (∃ v, e = .returned v ∧ ErIs w' w.heap.size v (.fa p 6)) ∧ Below w.heap.size w w' := by
  go_enter Tryd.func22, Tryd.ntmps22
  go_wp2
  go_ret
  exact ⟨⟨_, rfl, _, rfl, Nat.le_refl _, Blk.new _ _ _⟩, (Below.refl _ _).alloc (Nat.le_refl _) _⟩

set_option maxHeartbeats 1000000 in
theorem letters_any (s : ByteArray) (hs : s.size ≤ 140737488351232) (w : World) :
    Calls Tryd.prog 24 #[.string s] w fun e w' => e = .returned (.bool (letB s.data.toList)) ∧ w = w' := by
  have hlist : s.data.toList.length = s.size := by simp
  have hr : letB s.data.toList = (decide (s.size = 2) && s.data.toList.all isLet) := by unfold letB; rw [hlist]
  obtain ⟨R, hR⟩ : ∃ R, letB s.data.toList = R := ⟨_, rfl⟩
  rw [hR]
  rw [hr] at hR
  have HR := Lib.hid hR; clear hR hr
  have HLL := Lib.hid hlist; clear hlist
  go_enter Tryd.func24, Tryd.ntmps24
  go_wp2
  go_loop [3, 4, 7] (fun _ _ i => ∃ k : Nat, k ≤ s.size ∧ i = .int .i64 k ∧ Hid (∀ j (h : j < k) (h' : j < s.size), isLet s[j] = true)) (fun _ _ i => s.size - (intOf i).toNat)
  case atStart => exact ⟨0, by omega, rfl, fun j h => by omega⟩
  case round =>
    obtain ⟨k, hk, rfl, hall⟩ := hrel
    by_cases hlt : k < s.size
    · have hki : (k : Int) < (s.size : Int) := by omega
      have i1 := index_str (P := Tryd.prog) 9 Tryd.underlying9 s k hlt k rfl _ rfl
      obtain ⟨c, hc⟩ : ∃ c, s[k] = c := ⟨_, rfl⟩
      rw [hc] at i1
      have HC := Lib.hid hc; clear hc
      have hcl := c.toNat_lt
      have hnext : isLet c = true → Hid (∀ j (h : j < k + 1) (h' : j < s.size), isLet s[j] = true) := fun hl j h h' => by
        by_cases e : j = k
        · subst e; rw [HC.out]; exact hl
        · exact hall.out j (by omega) h'
      by_cases h1 : 65 ≤ c.toNat ∧ c.toNat ≤ 90
      · have hl : isLet c = true := by unfold isLet; rw [decide_eq_true h1]; rfl
        have hn := hnext hl
        obtain ⟨h1a, h1b⟩ := h1
        have q1 : (65 : Int) ≤ (c.toNat : Int) := by omega
        have q2 : (c.toNat : Int) ≤ 90 := by omega
        clear hnext hl
        go_wp2
        go_round
        case rel => exact ⟨k + 1, by omega, by go_num, hn⟩
        case measure => simp [intOf]; omega
      · by_cases h2 : 48 ≤ c.toNat ∧ c.toNat ≤ 57
        · have hl : isLet c = true := by unfold isLet; rw [decide_eq_true h2]; simp
          have hn := hnext hl
          obtain ⟨h2a, h2b⟩ := h2
          have q1 : ¬ (65 : Int) ≤ (c.toNat : Int) := by omega
          have q2 : (48 : Int) ≤ (c.toNat : Int) := by omega
          have q3 : (c.toNat : Int) ≤ 57 := by omega
          clear hnext hl h1
          go_wp2
          go_round
          case rel => exact ⟨k + 1, by omega, by go_num, hn⟩
          case measure => simp [intOf]; omega
        · have hl : isLet c = false := by unfold isLet; rw [decide_eq_false h1, decide_eq_false h2]; rfl
          have hfin : (decide (s.size = 2) && s.data.toList.all isLet) = false := by
            rw [Bool.and_eq_false_iff]
            right
            rw [Bool.eq_false_iff]
            intro h
            have := List.all_eq_true.1 h s[k] (List.getElem_mem (l := s.data.toList) (by rw [HLL.out]; exact hlt))
            rw [HC.out, hl] at this
            cases this
          have HFIN := Lib.hid hfin; clear hfin
          clear hnext hl
          by_cases a1 : 65 ≤ c.toNat
          · have q1 : (65 : Int) ≤ (c.toNat : Int) := by omega
            have q2 : ¬ (c.toNat : Int) ≤ 90 := by omega
            have q3 : (48 : Int) ≤ (c.toNat : Int) := by omega
            have q4 : ¬ (c.toNat : Int) ≤ 57 := by omega
            go_wp2
            go_ret
            exact ⟨by rw [← HR.out, HFIN.out]; rfl, rfl⟩
          · by_cases a2 : 48 ≤ c.toNat
            · have q1 : ¬ (65 : Int) ≤ (c.toNat : Int) := by omega
              have q3 : (48 : Int) ≤ (c.toNat : Int) := by omega
              have q4 : ¬ (c.toNat : Int) ≤ 57 := by omega
              go_wp2
              go_ret
              exact ⟨by rw [← HR.out, HFIN.out]; rfl, rfl⟩
            · have q1 : ¬ (65 : Int) ≤ (c.toNat : Int) := by omega
              have q3 : ¬ (48 : Int) ≤ (c.toNat : Int) := by omega
              go_wp2
              go_ret
              exact ⟨by rw [← HR.out, HFIN.out]; rfl, rfl⟩
    · have hall2 : s.data.toList.all isLet = true := by
        rw [List.all_eq_true]
        intro c hc
        obtain ⟨j, hj, rfl⟩ := List.getElem_of_mem hc
        have hj' : j < s.size := by simpa using hj
        exact hall.out j (by omega) hj'
      have hfin : (decide (s.size = 2) && s.data.toList.all isLet) = decide (s.size = 2) := by rw [hall2, Bool.and_true]
      have HFIN := Lib.hid hfin; clear hfin
      have hki : ¬ (k : Int) < (s.size : Int) := by omega
      clear hall2 hall
      by_cases h2 : s.size = 2
      · have hq : ((s.size : Int) == 2) = true := by rw [beq_iff_eq]; omega
        have hd : decide (s.size = 2) = true := decide_eq_true h2
        have HD := Lib.hid hd; clear hd h2
        go_wp2
        go_ret
        exact ⟨by rw [← HR.out, HFIN.out, HD.out]; rfl, rfl⟩
      · have hq : ((s.size : Int) == 2) = false := by rw [beq_eq_false_iff_ne]; omega
        have hd : decide (s.size = 2) = false := decide_eq_false h2
        have HD := Lib.hid hd; clear hd h2
        go_wp2
        go_ret
        exact ⟨by rw [← HR.out, HFIN.out, HD.out]; rfl, rfl⟩
end Go.Proofs.YtcjnkobddeiahaaDoor
