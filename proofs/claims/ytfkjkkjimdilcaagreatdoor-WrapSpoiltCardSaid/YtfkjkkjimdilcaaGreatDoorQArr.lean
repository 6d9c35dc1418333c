/- Arrays of bytes by value: compared, read as arguments. -/
import Derived.Test.YtfkjkkjimdilcaaGreatDoorQKit
import Derived.Stop.BytesEq
import Derived.ChangeMaps5
import Derived.ChangeReads
import Derived.ChangeArms
import Derived.ChangeSame
import Derived.Carry
namespace Go.Proofs.YtfkjkkjimdilcaaGreatDoor
open Go Go.ChangeShapes Go.WideShapes Go.RowKit Pr

section
variable {H : Type} {enc : TypeId × Value → H} {P : Program} {w : World} {base : Nat} {sp : Nat → Bool} {held : Bool}

theorem wf_u8 {n : Int} (h : (Lit.int .u8 n).wf = true) : ∃ c : Nat, n = c ∧ c < 256 := by
 have : 0 ≤ n ∧ n ≤ 255 := by simpa [Lit.wf, IntKind.min, IntKind.max, IntKind.bits, IntKind.signed] using h
 exact ⟨n.toNat, by omega, by omega⟩
end
end Go.Proofs.YtfkjkkjimdilcaaGreatDoor
