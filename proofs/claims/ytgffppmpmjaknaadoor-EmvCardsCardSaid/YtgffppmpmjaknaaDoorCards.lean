/-
  DERIVED. GIVEN WITH THE SEED: THE CARDS: each row of YtgffppmpmjaknaaDoorRows.lean that lists a variable, with what it lists TIED to the program's text (the seventh form; the later family's looks); each row that meets fmt, with fmt's text TOLD by the authors' own Lean function (tested against real Go, not proved from fmt's source: count such statements apart). THE CARD IS WHAT COUNTS. Prove the row's statement (the work); the ties are given (YtgffppmpmjaknaaDoorTie.lean); close each card by the builder's one call (the guide's Derived/Test/ToyasCard.lean, 'card_holds'). Laid BY PROGRAM, IN A SANDBOX (cutbox-door.mjs). By AI agents, Wed Nov 11 2026. No macro, syntax, notation, axiom, sorry.
-/
import Derived.Test.YtgffppmpmjaknaaDoorRows
import GoSem.ClaimSeven
namespace Go.Proofs.YtgffppmpmjaknaaDoor
namespace Rows

/-- THE TIED CARD OF 'lockboxlaw18.EmvSessions'. -/
def emvSessionsCard : Claim7 := { stood := { row := emvSessionsRow, standIns := [], harness := (true, "cfa1b9e7e23495c07d95bfd615e7a003a2b35915d52f132166fa109ef40c482f"), looks := true }, kinds := [], alts := [], laidByText := true, laidKinds := [.handle], laidTests := true, laidLooks := .later }
def EmvSessionsCardSaid : Prop := Claim7.holds Tryd.pinned (.plain (OpenSpec.ofChange emvSessionsSpec)) emvSessionsCard

/-- THE TIED CARD OF 'lockboxlaw18.EmvSession'. -/
def emvSessionCard : Claim7 := { stood := { row := emvSessionRow, standIns := [], harness := (true, "cfa1b9e7e23495c07d95bfd615e7a003a2b35915d52f132166fa109ef40c482f"), looks := true }, kinds := [], alts := [], laidByText := true, laidKinds := [.handle], laidTests := true, laidLooks := .later }
def EmvSessionCardSaid : Prop := Claim7.holds Tryd.pinned (.plain (OpenSpec.ofChange emvSessionSpec)) emvSessionCard

/-- THE TIED CARD OF 'lockboxlaw18.EmvTail'. -/
def emvTailCard : Claim7 := { stood := { row := emvTailRow, standIns := [], harness := (true, "cfa1b9e7e23495c07d95bfd615e7a003a2b35915d52f132166fa109ef40c482f"), looks := true }, kinds := [], alts := [], laidByText := true, laidKinds := [.handle], laidTests := true, laidLooks := .later }
def EmvTailCardSaid : Prop := Claim7.holds Tryd.pinned (.plain (OpenSpec.ofChange emvTailSpec)) emvTailCard

/-- THE TIED CARD OF 'lockboxlaw18.EmvKeeps'. -/
def emvKeepsCard : Claim7 := { stood := { row := emvKeepsRow, standIns := [], harness := (true, "cfa1b9e7e23495c07d95bfd615e7a003a2b35915d52f132166fa109ef40c482f"), looks := true }, kinds := [], alts := [], laidByText := true, laidKinds := [.handle], laidTests := true, laidLooks := .later }
def EmvKeepsCardSaid : Prop := Claim7.holds Tryd.pinned (.plain (OpenSpec.ofChange emvKeepsSpec)) emvKeepsCard

/-- THE TIED CARD OF 'lockboxlaw17.CvvDigits'. -/
def cvvDigitsCard : Claim7 := { stood := { row := cvvDigitsRow, standIns := [], harness := (true, "cfa1b9e7e23495c07d95bfd615e7a003a2b35915d52f132166fa109ef40c482f"), looks := true }, kinds := [], alts := [], laidByText := true, laidKinds := [.handle], laidTests := true, laidLooks := .later }
def CvvDigitsCardSaid : Prop := Claim7.holds Tryd.pinned (.plain (OpenSpec.ofChange cvvDigitsSpec)) cvvDigitsCard

/-- THE TIED CARD OF 'lockboxlaw18.EmvCards'. -/
def emvCardsCard : Claim7 := { stood := { row := emvCardsRow, standIns := [], harness := (true, "cfa1b9e7e23495c07d95bfd615e7a003a2b35915d52f132166fa109ef40c482f"), looks := true }, kinds := [], alts := [], laidByText := true, laidKinds := [.handle], laidTests := true, laidLooks := .later }
def EmvCardsCardSaid : Prop := Claim7.holds Tryd.pinned (.plain (OpenSpec.ofChange emvCardsSpec)) emvCardsCard

/-- THE TIED CARD OF 'lockboxlaw17.CvvOfs'. -/
def cvvOfsCard : Claim7 := { stood := { row := cvvOfsRow, standIns := [], harness := (true, "cfa1b9e7e23495c07d95bfd615e7a003a2b35915d52f132166fa109ef40c482f"), looks := true }, kinds := [], alts := [], laidByText := true, laidKinds := [.handle], laidTests := true, laidLooks := .later }
def CvvOfsCardSaid : Prop := Claim7.holds Tryd.pinned (.plain (OpenSpec.ofChange cvvOfsSpec)) cvvOfsCard

/-- THE TIED CARD OF 'lockboxlaw17.CvvAsks'. -/
def cvvAsksCard : Claim7 := { stood := { row := cvvAsksRow, standIns := [], harness := (true, "cfa1b9e7e23495c07d95bfd615e7a003a2b35915d52f132166fa109ef40c482f"), looks := true }, kinds := [], alts := [], laidByText := true, laidKinds := [.handle], laidTests := true, laidLooks := .later }
def CvvAsksCardSaid : Prop := Claim7.holds Tryd.pinned (.plain (OpenSpec.ofChange cvvAsksSpec)) cvvAsksCard

/-- THE TIED CARD OF 'lockboxlaw17.CvvServices'. -/
def cvvServicesCard : Claim7 := { stood := { row := cvvServicesRow, standIns := [], harness := (true, "cfa1b9e7e23495c07d95bfd615e7a003a2b35915d52f132166fa109ef40c482f"), looks := true }, kinds := [], alts := [], laidByText := true, laidKinds := [.handle], laidTests := true, laidLooks := .later }
def CvvServicesCardSaid : Prop := Claim7.holds Tryd.pinned (.plain (OpenSpec.ofChange cvvServicesSpec)) cvvServicesCard

/-- THE SECOND FORM's CARD OF 'lockboxlaw18.EmvSessions'. -/
def emvSessionsUptoCard : Claim7 := { stood := { row := emvSessionsUptoRow, standIns := [], harness := (true, "cfa1b9e7e23495c07d95bfd615e7a003a2b35915d52f132166fa109ef40c482f"), looks := true }, kinds := [], alts := [], laidByText := true, laidKinds := [.handle], laidTests := true, laidLooks := .later }
def EmvSessionsUptoCardSaid : Prop := Claim7.holds Tryd.pinned (.plain (OpenSpec.upto emvSessionsSpec)) emvSessionsUptoCard

/-- THE SECOND FORM's CARD OF 'lockboxlaw18.EmvSession'. -/
def emvSessionUptoCard : Claim7 := { stood := { row := emvSessionUptoRow, standIns := [], harness := (true, "cfa1b9e7e23495c07d95bfd615e7a003a2b35915d52f132166fa109ef40c482f"), looks := true }, kinds := [], alts := [], laidByText := true, laidKinds := [.handle], laidTests := true, laidLooks := .later }
def EmvSessionUptoCardSaid : Prop := Claim7.holds Tryd.pinned (.plain (OpenSpec.upto emvSessionSpec)) emvSessionUptoCard

/-- THE SECOND FORM's CARD OF 'lockboxlaw18.EmvTail'. -/
def emvTailUptoCard : Claim7 := { stood := { row := emvTailUptoRow, standIns := [], harness := (true, "cfa1b9e7e23495c07d95bfd615e7a003a2b35915d52f132166fa109ef40c482f"), looks := true }, kinds := [], alts := [], laidByText := true, laidKinds := [.handle], laidTests := true, laidLooks := .later }
def EmvTailUptoCardSaid : Prop := Claim7.holds Tryd.pinned (.plain (OpenSpec.upto emvTailSpec)) emvTailUptoCard

/-- THE SECOND FORM's CARD OF 'lockboxlaw18.EmvKeeps'. -/
def emvKeepsUptoCard : Claim7 := { stood := { row := emvKeepsUptoRow, standIns := [], harness := (true, "cfa1b9e7e23495c07d95bfd615e7a003a2b35915d52f132166fa109ef40c482f"), looks := true }, kinds := [], alts := [], laidByText := true, laidKinds := [.handle], laidTests := true, laidLooks := .later }
def EmvKeepsUptoCardSaid : Prop := Claim7.holds Tryd.pinned (.plain (OpenSpec.upto emvKeepsSpec)) emvKeepsUptoCard

/-- THE SECOND FORM's CARD OF 'lockboxlaw17.CvvDigits'. -/
def cvvDigitsUptoCard : Claim7 := { stood := { row := cvvDigitsUptoRow, standIns := [], harness := (true, "cfa1b9e7e23495c07d95bfd615e7a003a2b35915d52f132166fa109ef40c482f"), looks := true }, kinds := [], alts := [], laidByText := true, laidKinds := [.handle], laidTests := true, laidLooks := .later }
def CvvDigitsUptoCardSaid : Prop := Claim7.holds Tryd.pinned (.plain (OpenSpec.upto cvvDigitsSpec)) cvvDigitsUptoCard

/-- THE SECOND FORM's CARD OF 'lockboxlaw18.EmvCards'. -/
def emvCardsUptoCard : Claim7 := { stood := { row := emvCardsUptoRow, standIns := [], harness := (true, "cfa1b9e7e23495c07d95bfd615e7a003a2b35915d52f132166fa109ef40c482f"), looks := true }, kinds := [], alts := [], laidByText := true, laidKinds := [.handle], laidTests := true, laidLooks := .later }
def EmvCardsUptoCardSaid : Prop := Claim7.holds Tryd.pinned (.plain (OpenSpec.upto emvCardsSpec)) emvCardsUptoCard

/-- THE SECOND FORM's CARD OF 'lockboxlaw17.CvvOfs'. -/
def cvvOfsUptoCard : Claim7 := { stood := { row := cvvOfsUptoRow, standIns := [], harness := (true, "cfa1b9e7e23495c07d95bfd615e7a003a2b35915d52f132166fa109ef40c482f"), looks := true }, kinds := [], alts := [], laidByText := true, laidKinds := [.handle], laidTests := true, laidLooks := .later }
def CvvOfsUptoCardSaid : Prop := Claim7.holds Tryd.pinned (.plain (OpenSpec.upto cvvOfsSpec)) cvvOfsUptoCard

/-- THE SECOND FORM's CARD OF 'lockboxlaw17.CvvAsks'. -/
def cvvAsksUptoCard : Claim7 := { stood := { row := cvvAsksUptoRow, standIns := [], harness := (true, "cfa1b9e7e23495c07d95bfd615e7a003a2b35915d52f132166fa109ef40c482f"), looks := true }, kinds := [], alts := [], laidByText := true, laidKinds := [.handle], laidTests := true, laidLooks := .later }
def CvvAsksUptoCardSaid : Prop := Claim7.holds Tryd.pinned (.plain (OpenSpec.upto cvvAsksSpec)) cvvAsksUptoCard

/-- THE SECOND FORM's CARD OF 'lockboxlaw17.CvvServices'. -/
def cvvServicesUptoCard : Claim7 := { stood := { row := cvvServicesUptoRow, standIns := [], harness := (true, "cfa1b9e7e23495c07d95bfd615e7a003a2b35915d52f132166fa109ef40c482f"), looks := true }, kinds := [], alts := [], laidByText := true, laidKinds := [.handle], laidTests := true, laidLooks := .later }
def CvvServicesUptoCardSaid : Prop := Claim7.holds Tryd.pinned (.plain (OpenSpec.upto cvvServicesSpec)) cvvServicesUptoCard
end Rows
end Go.Proofs.YtgffppmpmjaknaaDoor
