/-
  DERIVED. GIVEN WITH THE SEED: THE CARDS: each row of YtnkgglmfoimbhaaDoorRows.lean that lists a variable, with what it lists TIED to the program's text (the seventh form; the later family's looks); each row that meets fmt, with fmt's text TOLD by the authors' own Lean function (tested against real Go, not proved from fmt's source: count such statements apart). THE CARD IS WHAT COUNTS. Prove the row's statement (the work); the ties are given (YtnkgglmfoimbhaaDoorTie.lean); close each card by the builder's one call (the guide's Derived/Test/ToyasCard.lean, 'card_holds'). Laid BY PROGRAM, IN A SANDBOX (cutbox-door.mjs). By AI agents, Wed Nov 11 2026. No macro, syntax, notation, axiom, sorry.
-/
import Derived.Test.YtnkgglmfoimbhaaDoorRows
import GoSem.ClaimSeven
namespace Go.Proofs.YtnkgglmfoimbhaaDoor
namespace Rows

/-- THE TIED CARD OF 'lockboxlaw14.PinMakes'. -/
def pinMakesCard : Claim7 := { stood := { row := pinMakesRow, standIns := [], harness := (true, "57b93d74a00c80a9b5150c639edbecc77842433333f5a5942f3ce13f507b29f4"), looks := true }, kinds := [], alts := [], laidByText := true, laidKinds := [.data, .data, .data, .handle], laidTests := true, laidLooks := .later }
def PinMakesCardSaid : Prop := Claim7.holds Tryd.pinned (.plain (OpenSpec.ofChange pinMakesSpec)) pinMakesCard

/-- THE TIED CARD OF 'lockboxlaw14.PinOpens'. -/
def pinOpensCard : Claim7 := { stood := { row := pinOpensRow, standIns := [], harness := (true, "57b93d74a00c80a9b5150c639edbecc77842433333f5a5942f3ce13f507b29f4"), looks := true }, kinds := [], alts := [], laidByText := true, laidKinds := [.data, .data, .data, .handle], laidTests := true, laidLooks := .later }
def PinOpensCardSaid : Prop := Claim7.holds Tryd.pinned (.plain (OpenSpec.ofChange pinOpensSpec)) pinOpensCard

/-- THE TIED CARD OF 'lockboxlaw14.PinFormats'. -/
def pinFormatsCard : Claim7 := { stood := { row := pinFormatsRow, standIns := [], harness := (true, "57b93d74a00c80a9b5150c639edbecc77842433333f5a5942f3ce13f507b29f4"), looks := true }, kinds := [], alts := [], laidByText := true, laidKinds := [.data, .data, .data, .handle], laidTests := true, laidLooks := .later }
def PinFormatsCardSaid : Prop := Claim7.holds Tryd.pinned (.plain (OpenSpec.ofChange pinFormatsSpec)) pinFormatsCard

/-- THE TIED CARD OF 'lockboxlaw16.PvvBehind'. -/
def pvvBehindCard : Claim7 := { stood := { row := pvvBehindRow, standIns := [], harness := (true, "57b93d74a00c80a9b5150c639edbecc77842433333f5a5942f3ce13f507b29f4"), looks := true }, kinds := [], alts := [], laidByText := true, laidKinds := [.data, .data, .data], laidTests := true, laidLooks := .later }
def PvvBehindCardSaid : Prop := Claim7.holds Tryd.pinned (.plain (OpenSpec.ofChange pvvBehindSpec)) pvvBehindCard

/-- THE TIED CARD OF 'lockboxlaw16.PvvKeeps'. -/
def pvvKeepsCard : Claim7 := { stood := { row := pvvKeepsRow, standIns := [], harness := (true, "57b93d74a00c80a9b5150c639edbecc77842433333f5a5942f3ce13f507b29f4"), looks := true }, kinds := [], alts := [], laidByText := true, laidKinds := [.data, .data, .data], laidTests := true, laidLooks := .later }
def PvvKeepsCardSaid : Prop := Claim7.holds Tryd.pinned (.plain (OpenSpec.ofChange pvvKeepsSpec)) pvvKeepsCard

/-- THE SECOND FORM's CARD OF 'lockboxlaw14.PinMakes'. -/
def pinMakesUptoCard : Claim7 := { stood := { row := pinMakesUptoRow, standIns := [], harness := (true, "57b93d74a00c80a9b5150c639edbecc77842433333f5a5942f3ce13f507b29f4"), looks := true }, kinds := [], alts := [], laidByText := true, laidKinds := [.data, .data, .data, .handle], laidTests := true, laidLooks := .later }
def PinMakesUptoCardSaid : Prop := Claim7.holds Tryd.pinned (.plain (OpenSpec.upto pinMakesSpec)) pinMakesUptoCard

/-- THE SECOND FORM's CARD OF 'lockboxlaw14.PinOpens'. -/
def pinOpensUptoCard : Claim7 := { stood := { row := pinOpensUptoRow, standIns := [], harness := (true, "57b93d74a00c80a9b5150c639edbecc77842433333f5a5942f3ce13f507b29f4"), looks := true }, kinds := [], alts := [], laidByText := true, laidKinds := [.data, .data, .data, .handle], laidTests := true, laidLooks := .later }
def PinOpensUptoCardSaid : Prop := Claim7.holds Tryd.pinned (.plain (OpenSpec.upto pinOpensSpec)) pinOpensUptoCard

/-- THE SECOND FORM's CARD OF 'lockboxlaw14.PinFormats'. -/
def pinFormatsUptoCard : Claim7 := { stood := { row := pinFormatsUptoRow, standIns := [], harness := (true, "57b93d74a00c80a9b5150c639edbecc77842433333f5a5942f3ce13f507b29f4"), looks := true }, kinds := [], alts := [], laidByText := true, laidKinds := [.data, .data, .data, .handle], laidTests := true, laidLooks := .later }
def PinFormatsUptoCardSaid : Prop := Claim7.holds Tryd.pinned (.plain (OpenSpec.upto pinFormatsSpec)) pinFormatsUptoCard

/-- THE SECOND FORM's CARD OF 'lockboxlaw16.PvvBehind'. -/
def pvvBehindUptoCard : Claim7 := { stood := { row := pvvBehindUptoRow, standIns := [], harness := (true, "57b93d74a00c80a9b5150c639edbecc77842433333f5a5942f3ce13f507b29f4"), looks := true }, kinds := [], alts := [], laidByText := true, laidKinds := [.data, .data, .data], laidTests := true, laidLooks := .later }
def PvvBehindUptoCardSaid : Prop := Claim7.holds Tryd.pinned (.plain (OpenSpec.upto pvvBehindSpec)) pvvBehindUptoCard

/-- THE SECOND FORM's CARD OF 'lockboxlaw16.PvvKeeps'. -/
def pvvKeepsUptoCard : Claim7 := { stood := { row := pvvKeepsUptoRow, standIns := [], harness := (true, "57b93d74a00c80a9b5150c639edbecc77842433333f5a5942f3ce13f507b29f4"), looks := true }, kinds := [], alts := [], laidByText := true, laidKinds := [.data, .data, .data], laidTests := true, laidLooks := .later }
def PvvKeepsUptoCardSaid : Prop := Claim7.holds Tryd.pinned (.plain (OpenSpec.upto pvvKeepsSpec)) pvvKeepsUptoCard
end Rows
end Go.Proofs.YtnkgglmfoimbhaaDoor
