/- The contracts of des.parts. The contract of des.Triple, of a key of two keys. -/
import Derived.Test.YthodpjcdmdbnoaaGreatDoorNDesAll
import Derived.Test.YthodpjcdmdbnoaaGreatDoorNKit
import Derived.Laws.ResultCell
/- The contracts of des.parts. -/
namespace Go.Proofs.YthodpjcdmdbnoaaGreatDoor
open Go Go.RowKit Pr

def z8 : List Nat := [0, 0, 0, 0, 0, 0, 0, 0]
end Go.Proofs.YthodpjcdmdbnoaaGreatDoor

/- The contract of des.Triple, of a key of two keys. -/
namespace Go.Proofs.YthodpjcdmdbnoaaGreatDoor
open Go Go.RowKit Pr

end Go.Proofs.YthodpjcdmdbnoaaGreatDoor
