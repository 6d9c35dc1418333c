/- The contracts of lockboxref08: Value, First. The contracts of lockboxref14.Wrong, lockboxref08.Digit. -/
import Derived.Test.YtfkjkkjimdilcaaGreatDoorKDig
import Derived.Test.YtfkjkkjimdilcaaGreatDoorKPureAll
import Derived.Test.YtfkjkkjimdilcaaGreatDoorKPinAll
import Derived.Test.YtfkjkkjimdilcaaGreatDoorKAs
import Derived.Test.YtfkjkkjimdilcaaGreatDoorKNums
import Derived.Laws.IdiomStrings
/- The contracts of lockboxref08: Value, First. -/
namespace Go.Proofs.YtfkjkkjimdilcaaGreatDoor
open Go Go.RowKit Pr

end Go.Proofs.YtfkjkkjimdilcaaGreatDoor

/- The contracts of lockboxref14.Wrong, lockboxref08.Digit. -/
namespace Go.Proofs.YtfkjkkjimdilcaaGreatDoor
open Go Go.RowKit Pr

theorem xorTo_take (x y : List Nat) (n : Nat) (hx : x.length = n) (hy : y.length = n) (k : Nat) (hk : k < n) : (xorTo x y n).take (k + 1) = (xorTo x y n).take k ++ [x.getD k 0 ^^^ y.getD k 0] := by
  rw [List.take_succ_eq_append_getElem (by rw [xorTo_len, hx]; exact hk)]
  congr 1
  have hg : ∀ m j, j < m → (xorTo x y m)[j]? = if j < x.length then some (x.getD j 0 ^^^ y.getD j 0) else none := by
    intro m
    induction m with
    | zero => intro j h; omega
    | succ m ih =>
      intro j h
      rw [xorTo, List.getElem?_set]
      by_cases e : m = j
      · subst e
        rw [if_pos rfl, xorTo_len]
      · rw [if_neg e]; exact ih j (by omega)
  have := hg n k hk
  rw [if_pos (by omega), List.getElem?_eq_getElem (by rw [xorTo_len]; omega)] at this
  rw [Option.some.inj this]
end Go.Proofs.YtfkjkkjimdilcaaGreatDoor
