/-
  NARROWER THAN 'FOR EVERY INPUT', by the rows' own cells (each row's printed sentence says how): EmvSessions: laid · EmvSession: laid · EmvTail: laid · EmvKeeps: laid · CvvDigits: laid · EmvCards: laid · CvvOfs: laid · CvvAsks: laid · CvvServices: laid.
  DERIVED. THE GIVEN ROWS OF THIS SEAT. 9 by the template 'for every input the law returns true; each argument reads behind the call as it read before'; 0 by the template 'total and deterministic' (their statements: YtgffppmpmjaknaaDoorTotals.lean).
  GIVEN WITH THE SEED: the statements are not yours to turn. If you find one false, say at which input.
  Laid BY PROGRAM, IN A SANDBOX (cutbox-rows.mjs): the forced cells as the released guide's own fill.sh prints them over the translation 599c12fa55d521aa… (all of the seat's roots in one cut). By AI agents, Wed Nov 11 2026. No macro, syntax, notation, axiom, sorry.
-/
import Derived.Test.YtgffppmpmjaknaaDoorChecked
import GoSem.Claim
import GoSem.ClaimJoined
import GoSem.ClaimMapViews
import Derived.JoinedTies
import Derived.KernelRfl
namespace Go.Proofs.YtgffppmpmjaknaaDoor
/- THE CELL 'sum', in the pinned program and in every row, IS THE sha256 OF THE DUMP (.gsa) THAT YtgffppmpmjaknaaDoorProg.lean LOADS. Nothing in Lean hashes anything: it is a label: what it is worth is what the hold of that sum in a sandbox is worth. -/
noncomputable def Tryd.pinned : Pinned := { name := "ytgffppmpmjaknaadoor", sum := "599c12fa55d521aae3dfa08813380a31c04a44d7eabb9ffeb7505219c3aea501", checked := Tryd.checked }
namespace Rows
def none {H : Type} : Left H := { results := [], args := [] }

/- WHAT THE LISTED PACKAGE-LEVEL VARIABLES READ AS WHEN THE CALL BEGINS. Each datum BY PROGRAM (the guide's laid-datum.mjs) off the statement by which the dump's own 'gosem.cut.vars' lays the variable. In a bare row this is a premise. The card (YtgffppmpmjaknaaDoorCards.lean) ties it to the program's text. -/
def laid_errors_errorType {H : Type} : DataW H := .iface "internal/reflectlite.rtype" (.agg [.ptr (.lit (.string [101, 114, 114, 111, 114]))])

/-- 'lockboxlaw18.EmvSessions': WHATEVER THE INPUT: true; the input reads as it did. -/
def emvSessionsSpec : ChangeSpec := { name := "emvSessions", fn := fun _ => fun
  | [d1, d2] => { results := [.lit (.bool true)], args := [d1, d2] }
  | _ => none }
def emvSessionsRow : OpenClaim := { program := "ytgffppmpmjaknaadoor", sum := "599c12fa55d521aae3dfa08813380a31c04a44d7eabb9ffeb7505219c3aea501", func := "lockbox/lockboxlaw18.EmvSessions", spec := "emvSessions", inPlace := ["internal/bytealg.IndexByteString", "internal/abi.NoEscape", "internal/bytealg.MakeNoZero", "internal/reflectlite.ValueOf", "(internal/reflectlite.Value).Type", "(internal/reflectlite.Value).IsNil", "internal/reflectlite.TypeOf", "(internal/reflectlite.Value).Elem", "(internal/reflectlite.Value).Set"], unfollowed := true, recurses := true, named := ["errors.errorType"], apart := false, laid := [("errors.errorType", laid_errors_errorType)] }
def EmvSessionsSaid : Prop := emvSessionsRow.holds Tryd.pinned (OpenSpec.ofChange emvSessionsSpec)

/-- ITS FALSE NEIGHBOUR: 'it returns false'. Refute it at one input. -/
def emvSessionsWrong : ChangeSpec := { name := "emvSessions", fn := fun _ => fun
  | [d1, d2] => { results := [.lit (.bool false)], args := [d1, d2] }
  | _ => none }
def EmvSessionsWrongFalsely : Prop := emvSessionsRow.holds Tryd.pinned (OpenSpec.ofChange emvSessionsWrong)

/-- 'lockboxlaw18.EmvSession': WHATEVER THE INPUT: true; the input reads as it did. -/
def emvSessionSpec : ChangeSpec := { name := "emvSession", fn := fun _ => fun
  | [d1, d2, d3, d4] => { results := [.lit (.bool true)], args := [d1, d2, d3, d4] }
  | _ => none }
def emvSessionRow : OpenClaim := { program := "ytgffppmpmjaknaadoor", sum := "599c12fa55d521aae3dfa08813380a31c04a44d7eabb9ffeb7505219c3aea501", func := "lockbox/lockboxlaw18.EmvSession", spec := "emvSession", inPlace := ["internal/bytealg.IndexByteString", "internal/abi.NoEscape", "internal/bytealg.MakeNoZero", "internal/reflectlite.ValueOf", "(internal/reflectlite.Value).Type", "(internal/reflectlite.Value).IsNil", "internal/reflectlite.TypeOf", "(internal/reflectlite.Value).Elem", "(internal/reflectlite.Value).Set"], unfollowed := true, recurses := true, named := ["errors.errorType"], apart := false, laid := [("errors.errorType", laid_errors_errorType)] }
def EmvSessionSaid : Prop := emvSessionRow.holds Tryd.pinned (OpenSpec.ofChange emvSessionSpec)

/-- ITS FALSE NEIGHBOUR: 'it returns false'. Refute it at one input. -/
def emvSessionWrong : ChangeSpec := { name := "emvSession", fn := fun _ => fun
  | [d1, d2, d3, d4] => { results := [.lit (.bool false)], args := [d1, d2, d3, d4] }
  | _ => none }
def EmvSessionWrongFalsely : Prop := emvSessionRow.holds Tryd.pinned (OpenSpec.ofChange emvSessionWrong)

/-- 'lockboxlaw18.EmvTail': WHATEVER THE INPUT: true; the input reads as it did. -/
def emvTailSpec : ChangeSpec := { name := "emvTail", fn := fun _ => fun
  | [d1, d2, d3] => { results := [.lit (.bool true)], args := [d1, d2, d3] }
  | _ => none }
def emvTailRow : OpenClaim := { program := "ytgffppmpmjaknaadoor", sum := "599c12fa55d521aae3dfa08813380a31c04a44d7eabb9ffeb7505219c3aea501", func := "lockbox/lockboxlaw18.EmvTail", spec := "emvTail", inPlace := ["internal/bytealg.IndexByteString", "internal/abi.NoEscape", "internal/bytealg.MakeNoZero", "internal/reflectlite.ValueOf", "(internal/reflectlite.Value).Type", "(internal/reflectlite.Value).IsNil", "internal/reflectlite.TypeOf", "(internal/reflectlite.Value).Elem", "(internal/reflectlite.Value).Set"], unfollowed := true, recurses := true, named := ["errors.errorType"], apart := false, laid := [("errors.errorType", laid_errors_errorType)] }
def EmvTailSaid : Prop := emvTailRow.holds Tryd.pinned (OpenSpec.ofChange emvTailSpec)

/-- ITS FALSE NEIGHBOUR: 'it returns false'. Refute it at one input. -/
def emvTailWrong : ChangeSpec := { name := "emvTail", fn := fun _ => fun
  | [d1, d2, d3] => { results := [.lit (.bool false)], args := [d1, d2, d3] }
  | _ => none }
def EmvTailWrongFalsely : Prop := emvTailRow.holds Tryd.pinned (OpenSpec.ofChange emvTailWrong)

/-- 'lockboxlaw18.EmvKeeps': WHATEVER THE INPUT: true; the input reads as it did. -/
def emvKeepsSpec : ChangeSpec := { name := "emvKeeps", fn := fun _ => fun
  | [d1, d2, d3] => { results := [.lit (.bool true)], args := [d1, d2, d3] }
  | _ => none }
def emvKeepsRow : OpenClaim := { program := "ytgffppmpmjaknaadoor", sum := "599c12fa55d521aae3dfa08813380a31c04a44d7eabb9ffeb7505219c3aea501", func := "lockbox/lockboxlaw18.EmvKeeps", spec := "emvKeeps", inPlace := ["internal/bytealg.IndexByteString", "internal/abi.NoEscape", "internal/bytealg.MakeNoZero", "internal/reflectlite.ValueOf", "(internal/reflectlite.Value).Type", "(internal/reflectlite.Value).IsNil", "internal/reflectlite.TypeOf", "(internal/reflectlite.Value).Elem", "(internal/reflectlite.Value).Set"], unfollowed := true, recurses := true, named := ["errors.errorType"], apart := false, laid := [("errors.errorType", laid_errors_errorType)] }
def EmvKeepsSaid : Prop := emvKeepsRow.holds Tryd.pinned (OpenSpec.ofChange emvKeepsSpec)

/-- ITS FALSE NEIGHBOUR: 'it returns false'. Refute it at one input. -/
def emvKeepsWrong : ChangeSpec := { name := "emvKeeps", fn := fun _ => fun
  | [d1, d2, d3] => { results := [.lit (.bool false)], args := [d1, d2, d3] }
  | _ => none }
def EmvKeepsWrongFalsely : Prop := emvKeepsRow.holds Tryd.pinned (OpenSpec.ofChange emvKeepsWrong)

/-- 'lockboxlaw17.CvvDigits': WHATEVER THE INPUT: true; the input reads as it did. -/
def cvvDigitsSpec : ChangeSpec := { name := "cvvDigits", fn := fun _ => fun
  | [d1, d2, d3, d4] => { results := [.lit (.bool true)], args := [d1, d2, d3, d4] }
  | _ => none }
def cvvDigitsRow : OpenClaim := { program := "ytgffppmpmjaknaadoor", sum := "599c12fa55d521aae3dfa08813380a31c04a44d7eabb9ffeb7505219c3aea501", func := "lockbox/lockboxlaw17.CvvDigits", spec := "cvvDigits", inPlace := ["internal/bytealg.IndexByteString", "internal/abi.NoEscape", "internal/bytealg.MakeNoZero", "internal/reflectlite.ValueOf", "(internal/reflectlite.Value).Type", "(internal/reflectlite.Value).IsNil", "internal/reflectlite.TypeOf", "(internal/reflectlite.Value).Elem", "(internal/reflectlite.Value).Set"], unfollowed := true, recurses := true, named := ["errors.errorType"], apart := false, laid := [("errors.errorType", laid_errors_errorType)] }
def CvvDigitsSaid : Prop := cvvDigitsRow.holds Tryd.pinned (OpenSpec.ofChange cvvDigitsSpec)

/-- ITS FALSE NEIGHBOUR: 'it returns false'. Refute it at one input. -/
def cvvDigitsWrong : ChangeSpec := { name := "cvvDigits", fn := fun _ => fun
  | [d1, d2, d3, d4] => { results := [.lit (.bool false)], args := [d1, d2, d3, d4] }
  | _ => none }
def CvvDigitsWrongFalsely : Prop := cvvDigitsRow.holds Tryd.pinned (OpenSpec.ofChange cvvDigitsWrong)

/-- 'lockboxlaw18.EmvCards': WHATEVER THE INPUT: true; the input reads as it did. -/
def emvCardsSpec : ChangeSpec := { name := "emvCards", fn := fun _ => fun
  | [d1, d2, d3] => { results := [.lit (.bool true)], args := [d1, d2, d3] }
  | _ => none }
def emvCardsRow : OpenClaim := { program := "ytgffppmpmjaknaadoor", sum := "599c12fa55d521aae3dfa08813380a31c04a44d7eabb9ffeb7505219c3aea501", func := "lockbox/lockboxlaw18.EmvCards", spec := "emvCards", inPlace := ["internal/bytealg.IndexByteString", "internal/abi.NoEscape", "internal/bytealg.MakeNoZero", "internal/reflectlite.ValueOf", "(internal/reflectlite.Value).Type", "(internal/reflectlite.Value).IsNil", "internal/reflectlite.TypeOf", "(internal/reflectlite.Value).Elem", "(internal/reflectlite.Value).Set"], unfollowed := true, recurses := true, named := ["errors.errorType"], apart := false, laid := [("errors.errorType", laid_errors_errorType)] }
def EmvCardsSaid : Prop := emvCardsRow.holds Tryd.pinned (OpenSpec.ofChange emvCardsSpec)

/-- ITS FALSE NEIGHBOUR: 'it returns false'. Refute it at one input. -/
def emvCardsWrong : ChangeSpec := { name := "emvCards", fn := fun _ => fun
  | [d1, d2, d3] => { results := [.lit (.bool false)], args := [d1, d2, d3] }
  | _ => none }
def EmvCardsWrongFalsely : Prop := emvCardsRow.holds Tryd.pinned (OpenSpec.ofChange emvCardsWrong)

/-- 'lockboxlaw17.CvvOfs': WHATEVER THE INPUT: true; the input reads as it did. -/
def cvvOfsSpec : ChangeSpec := { name := "cvvOfs", fn := fun _ => fun
  | [d1, d2, d3, d4] => { results := [.lit (.bool true)], args := [d1, d2, d3, d4] }
  | _ => none }
def cvvOfsRow : OpenClaim := { program := "ytgffppmpmjaknaadoor", sum := "599c12fa55d521aae3dfa08813380a31c04a44d7eabb9ffeb7505219c3aea501", func := "lockbox/lockboxlaw17.CvvOfs", spec := "cvvOfs", inPlace := ["internal/bytealg.IndexByteString", "internal/abi.NoEscape", "internal/bytealg.MakeNoZero", "internal/reflectlite.ValueOf", "(internal/reflectlite.Value).Type", "(internal/reflectlite.Value).IsNil", "internal/reflectlite.TypeOf", "(internal/reflectlite.Value).Elem", "(internal/reflectlite.Value).Set"], unfollowed := true, recurses := true, named := ["errors.errorType"], apart := false, laid := [("errors.errorType", laid_errors_errorType)] }
def CvvOfsSaid : Prop := cvvOfsRow.holds Tryd.pinned (OpenSpec.ofChange cvvOfsSpec)

/-- ITS FALSE NEIGHBOUR: 'it returns false'. Refute it at one input. -/
def cvvOfsWrong : ChangeSpec := { name := "cvvOfs", fn := fun _ => fun
  | [d1, d2, d3, d4] => { results := [.lit (.bool false)], args := [d1, d2, d3, d4] }
  | _ => none }
def CvvOfsWrongFalsely : Prop := cvvOfsRow.holds Tryd.pinned (OpenSpec.ofChange cvvOfsWrong)

/-- 'lockboxlaw17.CvvAsks': WHATEVER THE INPUT: true; the input reads as it did. -/
def cvvAsksSpec : ChangeSpec := { name := "cvvAsks", fn := fun _ => fun
  | [d1, d2, d3, d4, d5] => { results := [.lit (.bool true)], args := [d1, d2, d3, d4, d5] }
  | _ => none }
def cvvAsksRow : OpenClaim := { program := "ytgffppmpmjaknaadoor", sum := "599c12fa55d521aae3dfa08813380a31c04a44d7eabb9ffeb7505219c3aea501", func := "lockbox/lockboxlaw17.CvvAsks", spec := "cvvAsks", inPlace := ["internal/bytealg.IndexByteString", "internal/abi.NoEscape", "internal/bytealg.MakeNoZero", "internal/reflectlite.ValueOf", "(internal/reflectlite.Value).Type", "(internal/reflectlite.Value).IsNil", "internal/reflectlite.TypeOf", "(internal/reflectlite.Value).Elem", "(internal/reflectlite.Value).Set"], unfollowed := true, recurses := true, named := ["errors.errorType"], apart := false, laid := [("errors.errorType", laid_errors_errorType)] }
def CvvAsksSaid : Prop := cvvAsksRow.holds Tryd.pinned (OpenSpec.ofChange cvvAsksSpec)

/-- ITS FALSE NEIGHBOUR: 'it returns false'. Refute it at one input. -/
def cvvAsksWrong : ChangeSpec := { name := "cvvAsks", fn := fun _ => fun
  | [d1, d2, d3, d4, d5] => { results := [.lit (.bool false)], args := [d1, d2, d3, d4, d5] }
  | _ => none }
def CvvAsksWrongFalsely : Prop := cvvAsksRow.holds Tryd.pinned (OpenSpec.ofChange cvvAsksWrong)

/-- 'lockboxlaw17.CvvServices': WHATEVER THE INPUT: true; the input reads as it did. -/
def cvvServicesSpec : ChangeSpec := { name := "cvvServices", fn := fun _ => fun
  | [d1, d2] => { results := [.lit (.bool true)], args := [d1, d2] }
  | _ => none }
def cvvServicesRow : OpenClaim := { program := "ytgffppmpmjaknaadoor", sum := "599c12fa55d521aae3dfa08813380a31c04a44d7eabb9ffeb7505219c3aea501", func := "lockbox/lockboxlaw17.CvvServices", spec := "cvvServices", inPlace := ["internal/bytealg.IndexByteString", "internal/abi.NoEscape", "internal/bytealg.MakeNoZero", "internal/reflectlite.ValueOf", "(internal/reflectlite.Value).Type", "(internal/reflectlite.Value).IsNil", "internal/reflectlite.TypeOf", "(internal/reflectlite.Value).Elem", "(internal/reflectlite.Value).Set"], unfollowed := true, recurses := true, named := ["errors.errorType"], apart := false, laid := [("errors.errorType", laid_errors_errorType)] }
def CvvServicesSaid : Prop := cvvServicesRow.holds Tryd.pinned (OpenSpec.ofChange cvvServicesSpec)

/-- ITS FALSE NEIGHBOUR: 'it returns false'. Refute it at one input. -/
def cvvServicesWrong : ChangeSpec := { name := "cvvServices", fn := fun _ => fun
  | [d1, d2] => { results := [.lit (.bool false)], args := [d1, d2] }
  | _ => none }
def CvvServicesWrongFalsely : Prop := cvvServicesRow.holds Tryd.pinned (OpenSpec.ofChange cvvServicesWrong)

/- THE SECOND FORM. 'bulk': how many values and letters a reading holds, each counted each time it is reached (what is shared counts as often as it is met; a slice's spare places count too). A statement '..UptoSaid' is the law's where the arguments, and the package variables that the reading takes, are together of bulk at most 1048576: NARROWER than '..Said'. Prove '..Said' where nothing that the law and all that it calls make is longer than what came in: it says more and counts as full. Else prove '..UptoSaid'. A law counts once. -/
mutual
def uptoBulk {H : Type} : DataW H → Nat
  | .lit (.string bytes) => bytes.length + 1
  | .lit _ => 1
  | .nil => 1
  | .ptr d => uptoBulk d + 1
  | .slice elems spare => uptoBulkAll elems + uptoBulkAll spare + 1
  | .agg parts => uptoBulkAll parts + 1
  | .iface _ d => uptoBulk d + 1
  | .map entries => uptoBulkEntries entries + 1
  | .held _ => 1
def uptoBulkAll {H : Type} : List (DataW H) → Nat
  | [] => 0
  | d :: r => uptoBulk d + uptoBulkAll r
def uptoBulkEntries {H : Type} : List (Lit × DataW H) → Nat
  | [] => 0
  | x :: r => uptoBulkEntry x + uptoBulkEntries r
def uptoBulkEntry {H : Type} : Lit × DataW H → Nat
  | (.string bytes, d) => bytes.length + uptoBulk d + 1
  | (_, d) => uptoBulk d + 1
 end
def uptoSmall : (H : Type) → List (DataW H) → Bool := fun _ ds => decide (uptoBulkAll ds ≤ 1048576)
def OpenSpec.upto (s : _root_.Go.ChangeSpec) : _root_.Go.OpenSpec := { _root_.Go.OpenSpec.ofChange s with cond := some uptoSmall }

/-- 'lockboxlaw18.EmvSessions', WHERE WHAT IT READS IS OF BULK AT MOST 1048576: true; the input reads as it did. -/
def emvSessionsUptoRow : OpenClaim := { program := "ytgffppmpmjaknaadoor", sum := "599c12fa55d521aae3dfa08813380a31c04a44d7eabb9ffeb7505219c3aea501", func := "lockbox/lockboxlaw18.EmvSessions", spec := "emvSessions", inPlace := ["internal/bytealg.IndexByteString", "internal/abi.NoEscape", "internal/bytealg.MakeNoZero", "internal/reflectlite.ValueOf", "(internal/reflectlite.Value).Type", "(internal/reflectlite.Value).IsNil", "internal/reflectlite.TypeOf", "(internal/reflectlite.Value).Elem", "(internal/reflectlite.Value).Set"], unfollowed := true, recurses := true, named := ["errors.errorType"], apart := false, laid := [("errors.errorType", laid_errors_errorType)], narrowed := true }
def EmvSessionsUptoSaid : Prop := emvSessionsUptoRow.holds Tryd.pinned (OpenSpec.upto emvSessionsSpec)

/-- 'lockboxlaw18.EmvSession', WHERE WHAT IT READS IS OF BULK AT MOST 1048576: true; the input reads as it did. -/
def emvSessionUptoRow : OpenClaim := { program := "ytgffppmpmjaknaadoor", sum := "599c12fa55d521aae3dfa08813380a31c04a44d7eabb9ffeb7505219c3aea501", func := "lockbox/lockboxlaw18.EmvSession", spec := "emvSession", inPlace := ["internal/bytealg.IndexByteString", "internal/abi.NoEscape", "internal/bytealg.MakeNoZero", "internal/reflectlite.ValueOf", "(internal/reflectlite.Value).Type", "(internal/reflectlite.Value).IsNil", "internal/reflectlite.TypeOf", "(internal/reflectlite.Value).Elem", "(internal/reflectlite.Value).Set"], unfollowed := true, recurses := true, named := ["errors.errorType"], apart := false, laid := [("errors.errorType", laid_errors_errorType)], narrowed := true }
def EmvSessionUptoSaid : Prop := emvSessionUptoRow.holds Tryd.pinned (OpenSpec.upto emvSessionSpec)

/-- 'lockboxlaw18.EmvTail', WHERE WHAT IT READS IS OF BULK AT MOST 1048576: true; the input reads as it did. -/
def emvTailUptoRow : OpenClaim := { program := "ytgffppmpmjaknaadoor", sum := "599c12fa55d521aae3dfa08813380a31c04a44d7eabb9ffeb7505219c3aea501", func := "lockbox/lockboxlaw18.EmvTail", spec := "emvTail", inPlace := ["internal/bytealg.IndexByteString", "internal/abi.NoEscape", "internal/bytealg.MakeNoZero", "internal/reflectlite.ValueOf", "(internal/reflectlite.Value).Type", "(internal/reflectlite.Value).IsNil", "internal/reflectlite.TypeOf", "(internal/reflectlite.Value).Elem", "(internal/reflectlite.Value).Set"], unfollowed := true, recurses := true, named := ["errors.errorType"], apart := false, laid := [("errors.errorType", laid_errors_errorType)], narrowed := true }
def EmvTailUptoSaid : Prop := emvTailUptoRow.holds Tryd.pinned (OpenSpec.upto emvTailSpec)

/-- 'lockboxlaw18.EmvKeeps', WHERE WHAT IT READS IS OF BULK AT MOST 1048576: true; the input reads as it did. -/
def emvKeepsUptoRow : OpenClaim := { program := "ytgffppmpmjaknaadoor", sum := "599c12fa55d521aae3dfa08813380a31c04a44d7eabb9ffeb7505219c3aea501", func := "lockbox/lockboxlaw18.EmvKeeps", spec := "emvKeeps", inPlace := ["internal/bytealg.IndexByteString", "internal/abi.NoEscape", "internal/bytealg.MakeNoZero", "internal/reflectlite.ValueOf", "(internal/reflectlite.Value).Type", "(internal/reflectlite.Value).IsNil", "internal/reflectlite.TypeOf", "(internal/reflectlite.Value).Elem", "(internal/reflectlite.Value).Set"], unfollowed := true, recurses := true, named := ["errors.errorType"], apart := false, laid := [("errors.errorType", laid_errors_errorType)], narrowed := true }
def EmvKeepsUptoSaid : Prop := emvKeepsUptoRow.holds Tryd.pinned (OpenSpec.upto emvKeepsSpec)

/-- 'lockboxlaw17.CvvDigits', WHERE WHAT IT READS IS OF BULK AT MOST 1048576: true; the input reads as it did. -/
def cvvDigitsUptoRow : OpenClaim := { program := "ytgffppmpmjaknaadoor", sum := "599c12fa55d521aae3dfa08813380a31c04a44d7eabb9ffeb7505219c3aea501", func := "lockbox/lockboxlaw17.CvvDigits", spec := "cvvDigits", inPlace := ["internal/bytealg.IndexByteString", "internal/abi.NoEscape", "internal/bytealg.MakeNoZero", "internal/reflectlite.ValueOf", "(internal/reflectlite.Value).Type", "(internal/reflectlite.Value).IsNil", "internal/reflectlite.TypeOf", "(internal/reflectlite.Value).Elem", "(internal/reflectlite.Value).Set"], unfollowed := true, recurses := true, named := ["errors.errorType"], apart := false, laid := [("errors.errorType", laid_errors_errorType)], narrowed := true }
def CvvDigitsUptoSaid : Prop := cvvDigitsUptoRow.holds Tryd.pinned (OpenSpec.upto cvvDigitsSpec)

/-- 'lockboxlaw18.EmvCards', WHERE WHAT IT READS IS OF BULK AT MOST 1048576: true; the input reads as it did. -/
def emvCardsUptoRow : OpenClaim := { program := "ytgffppmpmjaknaadoor", sum := "599c12fa55d521aae3dfa08813380a31c04a44d7eabb9ffeb7505219c3aea501", func := "lockbox/lockboxlaw18.EmvCards", spec := "emvCards", inPlace := ["internal/bytealg.IndexByteString", "internal/abi.NoEscape", "internal/bytealg.MakeNoZero", "internal/reflectlite.ValueOf", "(internal/reflectlite.Value).Type", "(internal/reflectlite.Value).IsNil", "internal/reflectlite.TypeOf", "(internal/reflectlite.Value).Elem", "(internal/reflectlite.Value).Set"], unfollowed := true, recurses := true, named := ["errors.errorType"], apart := false, laid := [("errors.errorType", laid_errors_errorType)], narrowed := true }
def EmvCardsUptoSaid : Prop := emvCardsUptoRow.holds Tryd.pinned (OpenSpec.upto emvCardsSpec)

/-- 'lockboxlaw17.CvvOfs', WHERE WHAT IT READS IS OF BULK AT MOST 1048576: true; the input reads as it did. -/
def cvvOfsUptoRow : OpenClaim := { program := "ytgffppmpmjaknaadoor", sum := "599c12fa55d521aae3dfa08813380a31c04a44d7eabb9ffeb7505219c3aea501", func := "lockbox/lockboxlaw17.CvvOfs", spec := "cvvOfs", inPlace := ["internal/bytealg.IndexByteString", "internal/abi.NoEscape", "internal/bytealg.MakeNoZero", "internal/reflectlite.ValueOf", "(internal/reflectlite.Value).Type", "(internal/reflectlite.Value).IsNil", "internal/reflectlite.TypeOf", "(internal/reflectlite.Value).Elem", "(internal/reflectlite.Value).Set"], unfollowed := true, recurses := true, named := ["errors.errorType"], apart := false, laid := [("errors.errorType", laid_errors_errorType)], narrowed := true }
def CvvOfsUptoSaid : Prop := cvvOfsUptoRow.holds Tryd.pinned (OpenSpec.upto cvvOfsSpec)

/-- 'lockboxlaw17.CvvAsks', WHERE WHAT IT READS IS OF BULK AT MOST 1048576: true; the input reads as it did. -/
def cvvAsksUptoRow : OpenClaim := { program := "ytgffppmpmjaknaadoor", sum := "599c12fa55d521aae3dfa08813380a31c04a44d7eabb9ffeb7505219c3aea501", func := "lockbox/lockboxlaw17.CvvAsks", spec := "cvvAsks", inPlace := ["internal/bytealg.IndexByteString", "internal/abi.NoEscape", "internal/bytealg.MakeNoZero", "internal/reflectlite.ValueOf", "(internal/reflectlite.Value).Type", "(internal/reflectlite.Value).IsNil", "internal/reflectlite.TypeOf", "(internal/reflectlite.Value).Elem", "(internal/reflectlite.Value).Set"], unfollowed := true, recurses := true, named := ["errors.errorType"], apart := false, laid := [("errors.errorType", laid_errors_errorType)], narrowed := true }
def CvvAsksUptoSaid : Prop := cvvAsksUptoRow.holds Tryd.pinned (OpenSpec.upto cvvAsksSpec)

/-- 'lockboxlaw17.CvvServices', WHERE WHAT IT READS IS OF BULK AT MOST 1048576: true; the input reads as it did. -/
def cvvServicesUptoRow : OpenClaim := { program := "ytgffppmpmjaknaadoor", sum := "599c12fa55d521aae3dfa08813380a31c04a44d7eabb9ffeb7505219c3aea501", func := "lockbox/lockboxlaw17.CvvServices", spec := "cvvServices", inPlace := ["internal/bytealg.IndexByteString", "internal/abi.NoEscape", "internal/bytealg.MakeNoZero", "internal/reflectlite.ValueOf", "(internal/reflectlite.Value).Type", "(internal/reflectlite.Value).IsNil", "internal/reflectlite.TypeOf", "(internal/reflectlite.Value).Elem", "(internal/reflectlite.Value).Set"], unfollowed := true, recurses := true, named := ["errors.errorType"], apart := false, laid := [("errors.errorType", laid_errors_errorType)], narrowed := true }
def CvvServicesUptoSaid : Prop := cvvServicesUptoRow.holds Tryd.pinned (OpenSpec.upto cvvServicesSpec)

end Rows
end Go.Proofs.YtgffppmpmjaknaaDoor
