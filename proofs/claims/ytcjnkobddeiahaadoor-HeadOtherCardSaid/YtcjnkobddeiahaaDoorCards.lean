/-
  DERIVED. GIVEN WITH THE SEED: THE CARDS: each row of YtcjnkobddeiahaaDoorRows.lean that lists a variable, with what it lists TIED to the program's text (the seventh form; the later family's looks); each row that meets fmt, with fmt's text TOLD by the authors' own Lean function (tested against real Go, not proved from fmt's source: count such statements apart). THE CARD IS WHAT COUNTS. Prove the row's statement (the work); the ties are given (YtcjnkobddeiahaaDoorTie.lean); close each card by the builder's one call (the guide's Derived/Test/ToyasCard.lean, 'card_holds'). Laid BY PROGRAM, IN A SANDBOX (cutbox-door.mjs). By AI agents, Wed Nov 11 2026. No macro, syntax, notation, axiom, sorry.
-/
import Derived.Test.YtcjnkobddeiahaaDoorRows
import GoSem.ClaimSeven
namespace Go.Proofs.YtcjnkobddeiahaaDoor
namespace Rows

/-- THE TIED CARD OF 'lockboxlaw10.HeadBack'. -/
def headBackCard : Claim7 := { stood := { row := headBackRow, standIns := [], harness := (true, "e190d083872bcfb8c4237e5ad67c68e04aa6ead75ed9f7965e5cec1de2eeb63b"), looks := true }, kinds := [], alts := [], laidByText := true, laidKinds := [.data, .data, .data, .handle], laidTests := true, laidLooks := .later }
def HeadBackCardSaid : Prop := Claim7.holds Tryd.pinned (.plain (OpenSpec.ofChange headBackSpec)) headBackCard

/-- THE TIED CARD OF 'lockboxlaw10.HeadOther'. -/
def headOtherCard : Claim7 := { stood := { row := headOtherRow, standIns := [], harness := (true, "e190d083872bcfb8c4237e5ad67c68e04aa6ead75ed9f7965e5cec1de2eeb63b"), looks := true }, kinds := [], alts := [], laidByText := true, laidKinds := [.data, .data, .data, .handle], laidTests := true, laidLooks := .later }
def HeadOtherCardSaid : Prop := Claim7.holds Tryd.pinned (.plain (OpenSpec.ofChange headOtherSpec)) headOtherCard

/-- THE TIED CARD OF 'lockboxlaw10.HeadPrints'. -/
def headPrintsCard : Claim7 := { stood := { row := headPrintsRow, standIns := [], harness := (true, "e190d083872bcfb8c4237e5ad67c68e04aa6ead75ed9f7965e5cec1de2eeb63b"), looks := true }, kinds := [], alts := [], laidByText := true, laidKinds := [.data, .data, .data, .handle], laidTests := true, laidLooks := .later }
def HeadPrintsCardSaid : Prop := Claim7.holds Tryd.pinned (.plain (OpenSpec.ofChange headPrintsSpec)) headPrintsCard

/-- THE TIED CARD OF 'lockboxlaw10.HeadReads'. -/
def headReadsCard : Claim7 := { stood := { row := headReadsRow, standIns := [], harness := (true, "e190d083872bcfb8c4237e5ad67c68e04aa6ead75ed9f7965e5cec1de2eeb63b"), looks := true }, kinds := [], alts := [], laidByText := true, laidKinds := [.data, .data, .data, .handle], laidTests := true, laidLooks := .later }
def HeadReadsCardSaid : Prop := Claim7.holds Tryd.pinned (.plain (OpenSpec.ofChange headReadsSpec)) headReadsCard

/-- THE TIED CARD OF 'lockboxlaw10.HeadFits'. -/
def headFitsCard : Claim7 := { stood := { row := headFitsRow, standIns := [], harness := (true, "e190d083872bcfb8c4237e5ad67c68e04aa6ead75ed9f7965e5cec1de2eeb63b"), looks := true }, kinds := [], alts := [], laidByText := true, laidKinds := [.data, .data, .data, .handle], laidTests := true, laidLooks := .later }
def HeadFitsCardSaid : Prop := Claim7.holds Tryd.pinned (.plain (OpenSpec.ofChange headFitsSpec)) headFitsCard

/-- THE SECOND FORM's CARD OF 'lockboxlaw10.HeadBack'. -/
def headBackUptoCard : Claim7 := { stood := { row := headBackUptoRow, standIns := [], harness := (true, "e190d083872bcfb8c4237e5ad67c68e04aa6ead75ed9f7965e5cec1de2eeb63b"), looks := true }, kinds := [], alts := [], laidByText := true, laidKinds := [.data, .data, .data, .handle], laidTests := true, laidLooks := .later }
def HeadBackUptoCardSaid : Prop := Claim7.holds Tryd.pinned (.plain (OpenSpec.upto headBackSpec)) headBackUptoCard

/-- THE SECOND FORM's CARD OF 'lockboxlaw10.HeadOther'. -/
def headOtherUptoCard : Claim7 := { stood := { row := headOtherUptoRow, standIns := [], harness := (true, "e190d083872bcfb8c4237e5ad67c68e04aa6ead75ed9f7965e5cec1de2eeb63b"), looks := true }, kinds := [], alts := [], laidByText := true, laidKinds := [.data, .data, .data, .handle], laidTests := true, laidLooks := .later }
def HeadOtherUptoCardSaid : Prop := Claim7.holds Tryd.pinned (.plain (OpenSpec.upto headOtherSpec)) headOtherUptoCard

/-- THE SECOND FORM's CARD OF 'lockboxlaw10.HeadPrints'. -/
def headPrintsUptoCard : Claim7 := { stood := { row := headPrintsUptoRow, standIns := [], harness := (true, "e190d083872bcfb8c4237e5ad67c68e04aa6ead75ed9f7965e5cec1de2eeb63b"), looks := true }, kinds := [], alts := [], laidByText := true, laidKinds := [.data, .data, .data, .handle], laidTests := true, laidLooks := .later }
def HeadPrintsUptoCardSaid : Prop := Claim7.holds Tryd.pinned (.plain (OpenSpec.upto headPrintsSpec)) headPrintsUptoCard

/-- THE SECOND FORM's CARD OF 'lockboxlaw10.HeadReads'. -/
def headReadsUptoCard : Claim7 := { stood := { row := headReadsUptoRow, standIns := [], harness := (true, "e190d083872bcfb8c4237e5ad67c68e04aa6ead75ed9f7965e5cec1de2eeb63b"), looks := true }, kinds := [], alts := [], laidByText := true, laidKinds := [.data, .data, .data, .handle], laidTests := true, laidLooks := .later }
def HeadReadsUptoCardSaid : Prop := Claim7.holds Tryd.pinned (.plain (OpenSpec.upto headReadsSpec)) headReadsUptoCard

/-- THE SECOND FORM's CARD OF 'lockboxlaw10.HeadFits'. -/
def headFitsUptoCard : Claim7 := { stood := { row := headFitsUptoRow, standIns := [], harness := (true, "e190d083872bcfb8c4237e5ad67c68e04aa6ead75ed9f7965e5cec1de2eeb63b"), looks := true }, kinds := [], alts := [], laidByText := true, laidKinds := [.data, .data, .data, .handle], laidTests := true, laidLooks := .later }
def HeadFitsUptoCardSaid : Prop := Claim7.holds Tryd.pinned (.plain (OpenSpec.upto headFitsSpec)) headFitsUptoCard
end Rows
end Go.Proofs.YtcjnkobddeiahaaDoor
