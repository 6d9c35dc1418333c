/- The contracts of pin.decimal, pin.Account, cvv.wrong, digit.Equal. -/
import Derived.Test.YtgffppmpmjaknaaDoorErr
namespace Go.Proofs.YtgffppmpmjaknaaDoor
open Go Go.RowKit Pr

theorem extract_one (s : ByteArray) (k : Nat) (h : k < s.size) : (s.extract k (k + 1)).data.toList = [s[k]] := by
  rw [Lib.extract_data]
  apply List.ext_getElem
  · simp; omega
  · intro i h1 h2
    have : i = 0 := by simpa using h2
    subst this
    simp [get_list s k h]

/-- what is wrong with decimal digits -/
def decEr (s : List UInt8) (lo hi : Nat) : Er := if s.length < lo ∨ hi < s.length then .no 2 else match badAt isDec s with | some k => .fa k 16 | none => .ok

theorem decimal_one (s : ByteArray) (k : Nat) (h : k < s.size) (w : World) :
    Calls Tryd.prog 32 #[.string (s.extract k (k + 1))] w fun e w' => e = .returned (.bool (isDec s[k])) ∧ w = w' := by
  have := decimal_any (s.extract k (k + 1)) (by simp; omega) w
  rw [extract_one s k h] at this
  simpa using this

set_option maxHeartbeats 1000000 in
theorem decimals_any (s : ByteArray) (hs : s.size ≤ 140737488351232) (lo hi : Nat) (_hlo : lo ≤ 100) (_hhi : hi ≤ 100) (w : World) :
    Calls Tryd.prog 56 #[.string s, .int .i64 lo, .int .i64 hi] w fun e w' => (∃ v, e = .returned v ∧ ErIs w' w.heap.size v (decEr s.data.toList lo hi)) ∧ Below w.heap.size w w' := by
  have hlist : s.data.toList.length = s.size := by simp
  by_cases hbad : s.size < lo ∨ hi < s.size
  · have hr : decEr s.data.toList lo hi = .no 2 := by unfold decEr; rw [if_pos (by rw [hlist]; exact hbad)]
    rw [hr]
    clear hr hlist
    by_cases h1 : s.size < lo
    · go_enter Tryd.func56, Tryd.ntmps56
      go_wp2
      go_ret
      exact ⟨⟨_, rfl, rfl⟩, Below.refl _ _⟩
    · have h2 : hi < s.size := by omega
      go_enter Tryd.func56, Tryd.ntmps56
      go_wp2
      go_ret
      exact ⟨⟨_, rfl, rfl⟩, Below.refl _ _⟩
  · have hr : decEr s.data.toList lo hi = match badAt isDec s.data.toList with | some k => .fa k 16 | none => .ok := by unfold decEr; rw [if_neg (by rw [hlist]; exact hbad)]
    have h1 : ¬ s.size < lo := by omega
    have h2 : ¬ hi < s.size := by omega
    have HR := Lib.hid hr; clear hr hbad hlist
    go_enter Tryd.func56, Tryd.ntmps56
    go_wp2
    go_loop [21] (fun i => ∃ k : Nat, k ≤ s.size ∧ i = .int .i64 k ∧ Hid (∀ j (h : j < k) (h' : j < s.size), isDec s[j] = true)) (fun i => s.size - (intOf i).toNat)
    case atStart => exact ⟨0, by omega, rfl, fun j h => by omega⟩
    case round =>
      obtain ⟨k, hk, rfl, hall⟩ := hrel
      by_cases hlt : k < s.size
      · have hd := fun W => decimal_one s k hlt W
        obtain ⟨c, hc⟩ : ∃ c, s[k] = c := ⟨_, rfl⟩
        simp only [hc] at hd
        have HC := Lib.hid hc; clear hc
        cases hcd : isDec c with
        | true =>
          rw [hcd] at hd
          have HD := Lib.hid hd; clear hd
          have HCD := Lib.hid hcd; clear hcd
          go_wp2_with (go_at_call 32; refine (HD.out _).mono ?_; rintro e w' ⟨rfl, rfl⟩)
          go_round
          case rel => exact ⟨k + 1, by omega, by go_num, fun j h h' => by
            by_cases e : j = k
            · subst e; rw [HC.out]; exact HCD.out
            · exact hall.out j (by omega) h'⟩
          case measure => simp [intOf]; omega
        | false =>
          rw [hcd] at hd
          have HD := Lib.hid hd; clear hd
          have hfin : badAt isDec s.data.toList = some k := badAt_some (k := k) (by simpa using hlt) (fun j hj => hall.out j hj (by omega)) (by show isDec s[k] = false; rw [HC.out]; exact hcd)
          rw [hfin] at HR
          clear hfin hcd
          go_wp2_with (go_at_call 32; refine (HD.out _).mono ?_; rintro e w' ⟨rfl, rfl⟩)
          go_ret
          rw [HR.out]
          exact ⟨⟨_, rfl, _, rfl, Nat.le_refl _, Blk.new _ _ _⟩, (Below.refl _ _).alloc (Nat.le_refl _) _⟩
      · have hfin : badAt isDec s.data.toList = none := badAt_none fun c hc => by
          obtain ⟨j, hj, rfl⟩ := List.getElem_of_mem hc
          have hj' : j < s.size := by simpa using hj
          exact hall.out j (by omega) hj'
        rw [hfin] at HR
        clear hfin
        go_wp2
        go_ret
        rw [HR.out]
        exact ⟨⟨_, rfl, rfl⟩, Below.refl _ _⟩

set_option maxHeartbeats 400000 in
theorem account_any (s : ByteArray) (hs : s.size ≤ 140737488351232) (w : World) :
    Calls Tryd.prog 31 #[.string s] w fun e w' => (∃ v, e = .returned v ∧ ErIs w' w.heap.size v (decEr s.data.toList 13 19)) ∧ Below w.heap.size w w' := by
  have H := Lib.hid (fun W => decimals_any s hs 13 19 (by omega) (by omega) W)
  go_enter Tryd.func31, Tryd.ntmps31
  go_wp2_with fail
  refine (H.out _).mono ?_
  rintro e w' ⟨⟨v, rfl, hv⟩, hb⟩
  go_wp2
  go_ret
  exact ⟨⟨_, rfl, hv⟩, hb⟩
end Go.Proofs.YtgffppmpmjaknaaDoor
