/- Pure: sessions of unlike counters have unlike keys; a session's halves are unlike. -/
import Derived.Test.YtgffppmpmjaknaaDoorPureF
import Derived.Test.YtgffppmpmjaknaaDoorLaw18A
namespace Go.Proofs.YtgffppmpmjaknaaDoor
open Go Pr

theorem ssEr_ok (n : Nat) (h : n ≤ 65535) : ssEr 16 (n : Int) = .ok := by unfold ssEr; rw [if_neg (by omega), if_neg (by omega)]
theorem ssVal_ok (C : List Nat) (hC : C.length = 16) (n : Nat) (h : n ≤ 65535) : ssVal C (n : Int) = pairN C (ssX n) (ssY n) := by
  unfold ssVal
  rw [hC, ssEr_ok n h]
  rfl
theorem ssX_inj (a b : Nat) (h : ssX a = ssX b) : a = b := by
  simp only [ssX, List.cons.injEq, and_true] at h
  omega
theorem sessKeys (C : List Nat) (a b : Nat) (ha : a ≤ 65535) (hb : b ≤ 65535) : decide (pairN C (ssX a) (ssY a) = pairN C (ssX b) (ssY b)) = decide (a = b) := by
  by_cases h : a = b
  · subst h; simp
  · rw [decide_eq_false h]
    refine decide_eq_false fun h2 => h ?_
    unfold pairN at h2
    have h3 := (List.append_inj h2 (by rw [triple16_len, triple16_len])).1
    exact ssX_inj a b (triple16_inj _ _ _ _ _ rfl rfl (ssX_lt a ha) (ssX_lt b hb) h3)
theorem sessHalves (C : List Nat) (a : Nat) (ha : a ≤ 65535) : decide ((pairN C (ssX a) (ssY a)).take 8 = (pairN C (ssX a) (ssY a)).drop 8) = false := by
  refine decide_eq_false fun h => ?_
  unfold pairN at h
  rw [List.take_left' (triple16_len _ _ _ _), List.drop_left' (triple16_len _ _ _ _)] at h
  have h3 := triple16_inj _ _ _ _ _ rfl rfl (ssX_lt a ha) (ssY_lt a ha) h
  simp [ssX, ssY] at h3
end Go.Proofs.YtgffppmpmjaknaaDoor
