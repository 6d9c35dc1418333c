/- The contracts of lockboxref08: Value, First. The contracts of lockboxref14.Wrong, lockboxref08.Digit. -/
import Derived.Test.YtfkjkkjimdilcaaGreatDoorQDig
import Derived.Test.YtfkjkkjimdilcaaGreatDoorQPureAll
import Derived.Test.YtfkjkkjimdilcaaGreatDoorQPinAll
import Derived.Test.YtfkjkkjimdilcaaGreatDoorQAs
import Derived.Test.YtfkjkkjimdilcaaGreatDoorQNums
import Derived.Laws.IdiomStrings
set_option maxHeartbeats 8000000
set_option maxRecDepth 100000
/- The contracts of lockboxref08: Value, First. -/
namespace Go.Proofs.YtfkjkkjimdilcaaGreatDoor
open Go Go.RowKit Pr

def valR (c : UInt8) : Nat := if 48 ≤ c.toNat ∧ c.toNat ≤ 57 then c.toNat - 48 else if 65 ≤ c.toNat ∧ c.toNat ≤ 70 then c.toNat - 55 else 99

theorem value_any (c : UInt8) (x : Int) (hx : x = c.toNat) (w : World) : Calls Tryz.prog 85 #[.int .u8 x] w fun e w' => e = .returned (.int .i64 (valR c : Nat)) ∧ w = w' := by
 have hc := c.toNat_lt
 have hv : (valR c : Int) = if 48 ≤ x ∧ x ≤ 57 then x - 48 else if 65 ≤ x ∧ x ≤ 70 then x - 55 else 99 := by
  subst hx
  unfold valR
  by_cases h1 : 48 ≤ c.toNat ∧ c.toNat ≤ 57
  ·
   rw [if_pos h1, if_pos (by omega)]; omega
  ·
   rw [if_neg h1, if_neg (show ¬ (48 ≤ (c.toNat : Int) ∧ (c.toNat : Int) ≤ 57) by omega)]
   by_cases h2 : 65 ≤ c.toNat ∧ c.toNat ≤ 70
   ·
    rw [if_pos h2, if_pos (show 65 ≤ (c.toNat : Int) ∧ (c.toNat : Int) ≤ 70 by omega)]; omega
   ·
    rw [if_neg h2, if_neg (show ¬ (65 ≤ (c.toNat : Int) ∧ (c.toNat : Int) ≤ 70) by omega)]; rfl
 have hx0 : 0 ≤ x := by omega
 have hx1 : x < 256 := by omega
 rw [hv]; clear hv hx hc
 by_cases h1 : 48 ≤ x
 ·
  by_cases h2 : x ≤ 57
  ·
   rw [if_pos ⟨h1, h2⟩]
   go_enter Tryz.func85, Tryz.ntmps85
   go_wp2
   go_ret
   exact ⟨rfl, rfl⟩
  ·
   rw [if_neg (by omega)]
   by_cases h3 : 65 ≤ x
   ·
    by_cases h4 : x ≤ 70
    ·
     rw [if_pos ⟨h3, h4⟩]
     go_enter Tryz.func85, Tryz.ntmps85
     go_wp2
     go_ret
     exact ⟨rfl, rfl⟩
    ·
     rw [if_neg (by omega)]
     go_enter Tryz.func85, Tryz.ntmps85
     go_wp2
     go_ret
     exact ⟨rfl, rfl⟩
   ·
    rw [if_neg (by omega)]
    go_enter Tryz.func85, Tryz.ntmps85
    go_wp2
    go_ret
    exact ⟨rfl, rfl⟩
 ·
  rw [if_neg (by omega), if_neg (by omega)]; have h3 : ¬ 65 ≤ x := by omega
  go_enter Tryz.func85, Tryz.ntmps85
  go_wp2
  go_ret
  exact ⟨rfl, rfl⟩

theorem refFirst_any (s : ByteArray) (hs : s.size ≤ 140737488351232) (b : Nat) (_hb : b ≤ 100) (w : World) :
    Calls Tryz.prog 51 #[.string s, .int .i64 b] w fun e w' => e = .returned (.int .i64 (badZ (fun c => decide (valR c < b)) s.data.toList)) ∧ w = w' := by
 go_enter Tryz.func51, Tryz.ntmps51
 go_wp2
 go_loop [5] (fun i => ∃ k : Nat, k ≤ s.size ∧ i = .int .i64 k ∧ Hid (∀ j (h : j < k) (h' : j < s.size), valR s[j] < b)) (fun i => s.size - (intOf i).toNat)
 case atStart => exact ⟨0, by omega, rfl, fun j h => by omega⟩
 case round =>
  obtain ⟨k, hk, rfl, hall⟩ := hrel
  by_cases hlt : k < s.size
  ·
   have i1 := index_str (P := Tryz.prog) 9 Tryz.underlying9 s k hlt k rfl _ rfl; have hv := fun W => value_any s[k] _ rfl W; obtain ⟨c, hc⟩ : ∃ c, s[k] = c := ⟨_, rfl⟩; rw [hc] at i1; simp only [hc] at hv
   have HC := Hh hc; clear hc; have HV := Hh hv; clear hv
   by_cases hlt2 : valR c < b
   ·
    have hall' : Hid (∀ j (h : j < k + 1) (h' : j < s.size), valR s[j] < b) := fun j h h' => by
     by_cases e : j = k
     ·
      subst e; rw [HC.out]; exact hlt2
     ·
      exact hall.out j (by omega) h'
    have h1 : ¬ (b : Int) ≤ (valR c : Int) := by omega
    generalize valR c = v at *; go_wp2_with (go_at_call 85; refine (HV.out _).mono ?_; rintro e w' ⟨rfl, rfl⟩)
    go_round
    case rel => exact ⟨k + 1, by omega, by go_num, hall'⟩
    case measure => simp [intOf]; omega
   ·
    have hfin : badZ (fun c => decide (valR c < b)) s.data.toList = k := by
     rw [badZ, badAt_some (k := k) (by simpa using hlt) (fun j hj => decide_eq_true (hall.out j hj (by omega))) (by
      show decide (valR s[k] < b) = false
      rw [HC.out]; exact decide_eq_false hlt2)]
    have HF := Hh hfin; clear hfin; have h1 : (b : Int) ≤ (valR c : Int) := by omega
    generalize valR c = v at *; go_wp2_with (go_at_call 85; refine (HV.out _).mono ?_; rintro e w' ⟨rfl, rfl⟩)
    go_ret
    exact ⟨retI (by rw [HF.out]), rfl⟩
  ·
   have hfin : badZ (fun c => decide (valR c < b)) s.data.toList = -1 := by
    rw [badZ, badAt_none fun c hc => by
     obtain ⟨j, hj, rfl⟩ := List.getElem_of_mem hc; have hj' : j < s.size := by simpa using hj
     exact decide_eq_true (hall.out j (by omega) hj')]
   have HF := Hh hfin; clear hfin; go_wp2
   go_ret
   exact ⟨retI (by rw [HF.out]), rfl⟩

theorem valR_hex (c : UInt8) : decide (valR c < 16) = isHex c := all_u8 (p := fun c => decide (valR c < 16) = isHex c) (by decide +kernel) c
theorem badZ_congr {p q : UInt8 → Bool} (h : ∀ c, p c = q c) (s : List UInt8) : badZ p s = badZ q s := by unfold badZ; rw [badAt_congr h]

theorem refFirst16 (s : ByteArray) (hs : s.size ≤ 140737488351232) (w : World) :
    Calls Tryz.prog 51 #[.string s, .int .i64 16] w fun e w' => e = .returned (.int .i64 (badZ isHex s.data.toList)) ∧ w = w' := by
 have := refFirst_any s hs 16 (by omega) w; rw [badZ_congr valR_hex] at this; exact this

theorem valR_hexv (c : UInt8) (h : isHex c = true) : valR c = hexv c := all_u8 (p := fun c => isHex c = true → valR c = hexv c) (by decide +kernel) c h

theorem xorTo_take (x y : List Nat) (n : Nat) (hx : x.length = n) (hy : y.length = n) (k : Nat) (hk : k < n) : (xorTo x y n).take (k + 1) = (xorTo x y n).take k ++ [x.getD k 0 ^^^ y.getD k 0] := by
 rw [List.take_succ_eq_append_getElem (by rw [xorTo_len, hx]; exact hk)]
 congr 1
 have hg : ∀ m j, j < m → (xorTo x y m)[j]? = if j < x.length then some (x.getD j 0 ^^^ y.getD j 0) else none := by
  intro m
  induction m with
  | zero => intro j h; omega
  | succ m ih =>
   intro j h; rw [xorTo, List.getElem?_set]
   by_cases e : m = j
   ·
    subst e; rw [if_pos rfl, xorTo_len]
   ·
    rw [if_neg e]; exact ih j (by omega)
 have := hg n k hk; rw [if_pos (by omega), List.getElem?_eq_getElem (by rw [xorTo_len]; omega)] at this; rw [Option.some.inj this]
end Go.Proofs.YtfkjkkjimdilcaaGreatDoor
