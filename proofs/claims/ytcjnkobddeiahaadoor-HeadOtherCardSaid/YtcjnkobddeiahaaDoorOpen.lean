/- What is handed in as a number of two bytes: opened. -/
import Derived.Test.YtcjnkobddeiahaaDoorRow
namespace Go.Proofs.YtcjnkobddeiahaaDoor
open Go Go.ChangeShapes Go.WideShapes Go.RowKit
theorem wf_u16 {n : Int} (h : (Lit.int .u16 n).wf = true) : ∃ c : Nat, n = c ∧ c < 65536 := by
  have : 0 ≤ n ∧ n ≤ 65535 := by simpa [Lit.wf, IntKind.min, IntKind.max, IntKind.bits, IntKind.signed] using h
  exact ⟨n.toNat, by omega, by omega⟩
end Go.Proofs.YtcjnkobddeiahaaDoor
