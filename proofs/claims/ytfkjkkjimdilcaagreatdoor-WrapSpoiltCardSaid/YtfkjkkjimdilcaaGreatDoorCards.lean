/-
  DERIVED. GIVEN WITH THE SEED: THE CARDS: each row of YtfkjkkjimdilcaaGreatDoorRows.lean that lists a variable, with what it lists TIED to the program's text (the seventh form; the later family's looks); each row that meets fmt, with fmt's text TOLD by the authors' own Lean function (tested against real Go, not proved from fmt's source: count such statements apart). THE CARD IS WHAT COUNTS. Prove the row's statement (the work); the ties are given (YtfkjkkjimdilcaaGreatDoorTie.lean); close each card by the builder's one call (the guide's Derived/Test/ToyasCard.lean, 'card_holds'). Laid BY PROGRAM, IN A SANDBOX (cutbox-door.mjs). By AI agents, Wed Nov 11 2026. No macro, syntax, notation, axiom, sorry.
-/
import Derived.Test.YtfkjkkjimdilcaaGreatDoorRows
import GoSem.ClaimSeven
namespace Go.Proofs.YtfkjkkjimdilcaaGreatDoor
namespace Rows

/-- THE TIED CARD OF 'lockboxlaw11.WrapBack'. -/
def wrapBackCard : Claim7 := { stood := { row := wrapBackRow, standIns := [], harness := (true, "9d6869fe8cd3c85b306d7408b713088eb722244ee5329e918fc0737e1c2dffe0"), looks := true }, kinds := [], alts := [], laidByText := true, laidKinds := [.data, .data, .data, .handle], laidTests := true, laidLooks := .later }
def WrapBackCardSaid : Prop := Claim7.holds Tryz.pinned (.plain (OpenSpec.ofChange wrapBackSpec)) wrapBackCard

/-- THE TIED CARD OF 'lockboxlaw11.WrapKeeps'. -/
def wrapKeepsCard : Claim7 := { stood := { row := wrapKeepsRow, standIns := [], harness := (true, "9d6869fe8cd3c85b306d7408b713088eb722244ee5329e918fc0737e1c2dffe0"), looks := true }, kinds := [], alts := [], laidByText := true, laidKinds := [.data, .data, .data, .handle], laidTests := true, laidLooks := .later }
def WrapKeepsCardSaid : Prop := Claim7.holds Tryz.pinned (.plain (OpenSpec.ofChange wrapKeepsSpec)) wrapKeepsCard

/-- THE TIED CARD OF 'lockboxlaw11.WrapLengths'. -/
def wrapLengthsCard : Claim7 := { stood := { row := wrapLengthsRow, standIns := [], harness := (true, "9d6869fe8cd3c85b306d7408b713088eb722244ee5329e918fc0737e1c2dffe0"), looks := true }, kinds := [], alts := [], laidByText := true, laidKinds := [.data, .data, .data, .handle], laidTests := true, laidLooks := .later }
def WrapLengthsCardSaid : Prop := Claim7.holds Tryz.pinned (.plain (OpenSpec.ofChange wrapLengthsSpec)) wrapLengthsCard

/-- THE TIED CARD OF 'lockboxlaw11.WrapKeys'. -/
def wrapKeysCard : Claim7 := { stood := { row := wrapKeysRow, standIns := [], harness := (true, "9d6869fe8cd3c85b306d7408b713088eb722244ee5329e918fc0737e1c2dffe0"), looks := true }, kinds := [], alts := [], laidByText := true, laidKinds := [.data, .data, .data, .handle], laidTests := true, laidLooks := .later }
def WrapKeysCardSaid : Prop := Claim7.holds Tryz.pinned (.plain (OpenSpec.ofChange wrapKeysSpec)) wrapKeysCard

/-- THE TIED CARD OF 'lockboxlaw11.WrapWraps'. -/
def wrapWrapsCard : Claim7 := { stood := { row := wrapWrapsRow, standIns := [], harness := (true, "9d6869fe8cd3c85b306d7408b713088eb722244ee5329e918fc0737e1c2dffe0"), looks := true }, kinds := [], alts := [], laidByText := true, laidKinds := [.data, .data, .data, .handle], laidTests := true, laidLooks := .later }
def WrapWrapsCardSaid : Prop := Claim7.holds Tryz.pinned (.plain (OpenSpec.ofChange wrapWrapsSpec)) wrapWrapsCard

/-- THE TIED CARD OF 'lockboxlaw11.WrapUnwraps'. -/
def wrapUnwrapsCard : Claim7 := { stood := { row := wrapUnwrapsRow, standIns := [], harness := (true, "9d6869fe8cd3c85b306d7408b713088eb722244ee5329e918fc0737e1c2dffe0"), looks := true }, kinds := [], alts := [], laidByText := true, laidKinds := [.data, .data, .data, .handle], laidTests := true, laidLooks := .later }
def WrapUnwrapsCardSaid : Prop := Claim7.holds Tryz.pinned (.plain (OpenSpec.ofChange wrapUnwrapsSpec)) wrapUnwrapsCard

/-- THE TIED CARD OF 'lockboxlaw11.WrapSpoilt'. -/
def wrapSpoiltCard : Claim7 := { stood := { row := wrapSpoiltRow, standIns := [], harness := (true, "9d6869fe8cd3c85b306d7408b713088eb722244ee5329e918fc0737e1c2dffe0"), looks := true }, kinds := [], alts := [], laidByText := true, laidKinds := [.data, .data, .data, .handle], laidTests := true, laidLooks := .later }
def WrapSpoiltCardSaid : Prop := Claim7.holds Tryz.pinned (.plain (OpenSpec.ofChange wrapSpoiltSpec)) wrapSpoiltCard

/-- THE SECOND FORM's CARD OF 'lockboxlaw11.WrapBack'. -/
def wrapBackUptoCard : Claim7 := { stood := { row := wrapBackUptoRow, standIns := [], harness := (true, "9d6869fe8cd3c85b306d7408b713088eb722244ee5329e918fc0737e1c2dffe0"), looks := true }, kinds := [], alts := [], laidByText := true, laidKinds := [.data, .data, .data, .handle], laidTests := true, laidLooks := .later }
def WrapBackUptoCardSaid : Prop := Claim7.holds Tryz.pinned (.plain (OpenSpec.upto wrapBackSpec)) wrapBackUptoCard

/-- THE SECOND FORM's CARD OF 'lockboxlaw11.WrapKeeps'. -/
def wrapKeepsUptoCard : Claim7 := { stood := { row := wrapKeepsUptoRow, standIns := [], harness := (true, "9d6869fe8cd3c85b306d7408b713088eb722244ee5329e918fc0737e1c2dffe0"), looks := true }, kinds := [], alts := [], laidByText := true, laidKinds := [.data, .data, .data, .handle], laidTests := true, laidLooks := .later }
def WrapKeepsUptoCardSaid : Prop := Claim7.holds Tryz.pinned (.plain (OpenSpec.upto wrapKeepsSpec)) wrapKeepsUptoCard

/-- THE SECOND FORM's CARD OF 'lockboxlaw11.WrapLengths'. -/
def wrapLengthsUptoCard : Claim7 := { stood := { row := wrapLengthsUptoRow, standIns := [], harness := (true, "9d6869fe8cd3c85b306d7408b713088eb722244ee5329e918fc0737e1c2dffe0"), looks := true }, kinds := [], alts := [], laidByText := true, laidKinds := [.data, .data, .data, .handle], laidTests := true, laidLooks := .later }
def WrapLengthsUptoCardSaid : Prop := Claim7.holds Tryz.pinned (.plain (OpenSpec.upto wrapLengthsSpec)) wrapLengthsUptoCard

/-- THE SECOND FORM's CARD OF 'lockboxlaw11.WrapKeys'. -/
def wrapKeysUptoCard : Claim7 := { stood := { row := wrapKeysUptoRow, standIns := [], harness := (true, "9d6869fe8cd3c85b306d7408b713088eb722244ee5329e918fc0737e1c2dffe0"), looks := true }, kinds := [], alts := [], laidByText := true, laidKinds := [.data, .data, .data, .handle], laidTests := true, laidLooks := .later }
def WrapKeysUptoCardSaid : Prop := Claim7.holds Tryz.pinned (.plain (OpenSpec.upto wrapKeysSpec)) wrapKeysUptoCard

/-- THE SECOND FORM's CARD OF 'lockboxlaw11.WrapWraps'. -/
def wrapWrapsUptoCard : Claim7 := { stood := { row := wrapWrapsUptoRow, standIns := [], harness := (true, "9d6869fe8cd3c85b306d7408b713088eb722244ee5329e918fc0737e1c2dffe0"), looks := true }, kinds := [], alts := [], laidByText := true, laidKinds := [.data, .data, .data, .handle], laidTests := true, laidLooks := .later }
def WrapWrapsUptoCardSaid : Prop := Claim7.holds Tryz.pinned (.plain (OpenSpec.upto wrapWrapsSpec)) wrapWrapsUptoCard

/-- THE SECOND FORM's CARD OF 'lockboxlaw11.WrapUnwraps'. -/
def wrapUnwrapsUptoCard : Claim7 := { stood := { row := wrapUnwrapsUptoRow, standIns := [], harness := (true, "9d6869fe8cd3c85b306d7408b713088eb722244ee5329e918fc0737e1c2dffe0"), looks := true }, kinds := [], alts := [], laidByText := true, laidKinds := [.data, .data, .data, .handle], laidTests := true, laidLooks := .later }
def WrapUnwrapsUptoCardSaid : Prop := Claim7.holds Tryz.pinned (.plain (OpenSpec.upto wrapUnwrapsSpec)) wrapUnwrapsUptoCard

/-- THE SECOND FORM's CARD OF 'lockboxlaw11.WrapSpoilt'. -/
def wrapSpoiltUptoCard : Claim7 := { stood := { row := wrapSpoiltUptoRow, standIns := [], harness := (true, "9d6869fe8cd3c85b306d7408b713088eb722244ee5329e918fc0737e1c2dffe0"), looks := true }, kinds := [], alts := [], laidByText := true, laidKinds := [.data, .data, .data, .handle], laidTests := true, laidLooks := .later }
def WrapSpoiltUptoCardSaid : Prop := Claim7.holds Tryz.pinned (.plain (OpenSpec.upto wrapSpoiltSpec)) wrapSpoiltUptoCard
end Rows
end Go.Proofs.YtfkjkkjimdilcaaGreatDoor
