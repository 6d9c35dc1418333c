/-
  DERIVED. GIVEN WITH THE SEED: THE CARDS: each row of YthodpjcdmdbnoaaGreatDoorRows.lean that lists a variable, with what it lists TIED to the program's text (the seventh form; the later family's looks); each row that meets fmt, with fmt's text TOLD by the authors' own Lean function (tested against real Go, not proved from fmt's source: count such statements apart). THE CARD IS WHAT COUNTS. Prove the row's statement (the work); the ties are given (YthodpjcdmdbnoaaGreatDoorTie.lean); close each card by the builder's one call (the guide's Derived/Test/ToyasCard.lean, 'card_holds'). Laid BY PROGRAM, IN A SANDBOX (cutbox-door.mjs). By AI agents, Wed Nov 11 2026. No macro, syntax, notation, axiom, sorry.
-/
import Derived.Test.YthodpjcdmdbnoaaGreatDoorRows
import GoSem.ClaimSeven
namespace Go.Proofs.YthodpjcdmdbnoaaGreatDoor
namespace Rows

/-- THE TIED CARD OF 'lockboxlaw14.PinFours'. -/
def pinFoursCard : Claim7 := { stood := { row := pinFoursRow, standIns := [], harness := (true, "9e189170a4075c0a46da952390d7ae5348711e0043c5036e295cb7a97db2a35f"), looks := true }, kinds := [], alts := [], laidByText := true, laidKinds := [.data, .data, .data, .handle], laidTests := true, laidLooks := .later }
def PinFoursCardSaid : Prop := Claim7.holds Tryz.pinned (.plain (OpenSpec.ofChange pinFoursSpec)) pinFoursCard

/-- THE SECOND FORM's CARD OF 'lockboxlaw14.PinFours'. -/
def pinFoursUptoCard : Claim7 := { stood := { row := pinFoursUptoRow, standIns := [], harness := (true, "9e189170a4075c0a46da952390d7ae5348711e0043c5036e295cb7a97db2a35f"), looks := true }, kinds := [], alts := [], laidByText := true, laidKinds := [.data, .data, .data, .handle], laidTests := true, laidLooks := .later }
def PinFoursUptoCardSaid : Prop := Claim7.holds Tryz.pinned (.plain (OpenSpec.upto pinFoursSpec)) pinFoursUptoCard
end Rows
end Go.Proofs.YthodpjcdmdbnoaaGreatDoor
