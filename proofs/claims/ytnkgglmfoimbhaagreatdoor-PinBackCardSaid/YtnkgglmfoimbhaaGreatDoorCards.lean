/-
  DERIVED. GIVEN WITH THE SEED: THE CARDS: each row of YtnkgglmfoimbhaaGreatDoorRows.lean that lists a variable, with what it lists TIED to the program's text (the seventh form; the later family's looks); each row that meets fmt, with fmt's text TOLD by the authors' own Lean function (tested against real Go, not proved from fmt's source: count such statements apart). THE CARD IS WHAT COUNTS. Prove the row's statement (the work); the ties are given (YtnkgglmfoimbhaaGreatDoorTie.lean); close each card by the builder's one call (the guide's Derived/Test/ToyasCard.lean, 'card_holds'). Laid BY PROGRAM, IN A SANDBOX (cutbox-door.mjs). By AI agents, Wed Nov 11 2026. No macro, syntax, notation, axiom, sorry.
-/
import Derived.Test.YtnkgglmfoimbhaaGreatDoorRows
import GoSem.ClaimSeven
namespace Go.Proofs.YtnkgglmfoimbhaaGreatDoor
namespace Rows

/-- THE TIED CARD OF 'lockboxlaw16.PvvPicks'. -/
def pvvPicksCard : Claim7 := { stood := { row := pvvPicksRow, standIns := [], harness := (true, "02456099596d0bbfff520ac3614d042aafb9eb334c2949fb2c86d812bfafce89"), looks := true }, kinds := [], alts := [], laidByText := true, laidKinds := [.data, .data, .data, .handle], laidTests := true, laidLooks := .later }
def PvvPicksCardSaid : Prop := Claim7.holds Tryz.pinned (.plain (OpenSpec.ofChange pvvPicksSpec)) pvvPicksCard

/-- THE TIED CARD OF 'lockboxlaw16.PvvOfs'. -/
def pvvOfsCard : Claim7 := { stood := { row := pvvOfsRow, standIns := [], harness := (true, "02456099596d0bbfff520ac3614d042aafb9eb334c2949fb2c86d812bfafce89"), looks := true }, kinds := [], alts := [], laidByText := true, laidKinds := [.data, .data, .data, .handle], laidTests := true, laidLooks := .later }
def PvvOfsCardSaid : Prop := Claim7.holds Tryz.pinned (.plain (OpenSpec.ofChange pvvOfsSpec)) pvvOfsCard

/-- THE TIED CARD OF 'lockboxlaw16.PvvAsks'. -/
def pvvAsksCard : Claim7 := { stood := { row := pvvAsksRow, standIns := [], harness := (true, "02456099596d0bbfff520ac3614d042aafb9eb334c2949fb2c86d812bfafce89"), looks := true }, kinds := [], alts := [], laidByText := true, laidKinds := [.data, .data, .data, .handle], laidTests := true, laidLooks := .later }
def PvvAsksCardSaid : Prop := Claim7.holds Tryz.pinned (.plain (OpenSpec.ofChange pvvAsksSpec)) pvvAsksCard

/-- THE TIED CARD OF 'lockboxlaw14.PinBack'. -/
def pinBackCard : Claim7 := { stood := { row := pinBackRow, standIns := [], harness := (true, "02456099596d0bbfff520ac3614d042aafb9eb334c2949fb2c86d812bfafce89"), looks := true }, kinds := [], alts := [], laidByText := true, laidKinds := [.data, .data, .data], laidTests := true, laidLooks := .later }
def PinBackCardSaid : Prop := Claim7.holds Tryz.pinned (.plain (OpenSpec.ofChange pinBackSpec)) pinBackCard

/-- THE TIED CARD OF 'lockboxlaw14.PinKeeps'. -/
def pinKeepsCard : Claim7 := { stood := { row := pinKeepsRow, standIns := [], harness := (true, "02456099596d0bbfff520ac3614d042aafb9eb334c2949fb2c86d812bfafce89"), looks := true }, kinds := [], alts := [], laidByText := true, laidKinds := [.data, .data, .data], laidTests := true, laidLooks := .later }
def PinKeepsCardSaid : Prop := Claim7.holds Tryz.pinned (.plain (OpenSpec.ofChange pinKeepsSpec)) pinKeepsCard

/-- THE TIED CARD OF 'lockboxlaw14.PinFours'. -/
def pinFoursCard : Claim7 := { stood := { row := pinFoursRow, standIns := [], harness := (true, "02456099596d0bbfff520ac3614d042aafb9eb334c2949fb2c86d812bfafce89"), looks := true }, kinds := [], alts := [], laidByText := true, laidKinds := [.data, .data, .data, .handle], laidTests := true, laidLooks := .later }
def PinFoursCardSaid : Prop := Claim7.holds Tryz.pinned (.plain (OpenSpec.ofChange pinFoursSpec)) pinFoursCard

/-- THE SECOND FORM's CARD OF 'lockboxlaw16.PvvPicks'. -/
def pvvPicksUptoCard : Claim7 := { stood := { row := pvvPicksUptoRow, standIns := [], harness := (true, "02456099596d0bbfff520ac3614d042aafb9eb334c2949fb2c86d812bfafce89"), looks := true }, kinds := [], alts := [], laidByText := true, laidKinds := [.data, .data, .data, .handle], laidTests := true, laidLooks := .later }
def PvvPicksUptoCardSaid : Prop := Claim7.holds Tryz.pinned (.plain (OpenSpec.upto pvvPicksSpec)) pvvPicksUptoCard

/-- THE SECOND FORM's CARD OF 'lockboxlaw16.PvvOfs'. -/
def pvvOfsUptoCard : Claim7 := { stood := { row := pvvOfsUptoRow, standIns := [], harness := (true, "02456099596d0bbfff520ac3614d042aafb9eb334c2949fb2c86d812bfafce89"), looks := true }, kinds := [], alts := [], laidByText := true, laidKinds := [.data, .data, .data, .handle], laidTests := true, laidLooks := .later }
def PvvOfsUptoCardSaid : Prop := Claim7.holds Tryz.pinned (.plain (OpenSpec.upto pvvOfsSpec)) pvvOfsUptoCard

/-- THE SECOND FORM's CARD OF 'lockboxlaw16.PvvAsks'. -/
def pvvAsksUptoCard : Claim7 := { stood := { row := pvvAsksUptoRow, standIns := [], harness := (true, "02456099596d0bbfff520ac3614d042aafb9eb334c2949fb2c86d812bfafce89"), looks := true }, kinds := [], alts := [], laidByText := true, laidKinds := [.data, .data, .data, .handle], laidTests := true, laidLooks := .later }
def PvvAsksUptoCardSaid : Prop := Claim7.holds Tryz.pinned (.plain (OpenSpec.upto pvvAsksSpec)) pvvAsksUptoCard

/-- THE SECOND FORM's CARD OF 'lockboxlaw14.PinBack'. -/
def pinBackUptoCard : Claim7 := { stood := { row := pinBackUptoRow, standIns := [], harness := (true, "02456099596d0bbfff520ac3614d042aafb9eb334c2949fb2c86d812bfafce89"), looks := true }, kinds := [], alts := [], laidByText := true, laidKinds := [.data, .data, .data], laidTests := true, laidLooks := .later }
def PinBackUptoCardSaid : Prop := Claim7.holds Tryz.pinned (.plain (OpenSpec.upto pinBackSpec)) pinBackUptoCard

/-- THE SECOND FORM's CARD OF 'lockboxlaw14.PinKeeps'. -/
def pinKeepsUptoCard : Claim7 := { stood := { row := pinKeepsUptoRow, standIns := [], harness := (true, "02456099596d0bbfff520ac3614d042aafb9eb334c2949fb2c86d812bfafce89"), looks := true }, kinds := [], alts := [], laidByText := true, laidKinds := [.data, .data, .data], laidTests := true, laidLooks := .later }
def PinKeepsUptoCardSaid : Prop := Claim7.holds Tryz.pinned (.plain (OpenSpec.upto pinKeepsSpec)) pinKeepsUptoCard

/-- THE SECOND FORM's CARD OF 'lockboxlaw14.PinFours'. -/
def pinFoursUptoCard : Claim7 := { stood := { row := pinFoursUptoRow, standIns := [], harness := (true, "02456099596d0bbfff520ac3614d042aafb9eb334c2949fb2c86d812bfafce89"), looks := true }, kinds := [], alts := [], laidByText := true, laidKinds := [.data, .data, .data, .handle], laidTests := true, laidLooks := .later }
def PinFoursUptoCardSaid : Prop := Claim7.holds Tryz.pinned (.plain (OpenSpec.upto pinFoursSpec)) pinFoursUptoCard
end Rows
end Go.Proofs.YtnkgglmfoimbhaaGreatDoor
