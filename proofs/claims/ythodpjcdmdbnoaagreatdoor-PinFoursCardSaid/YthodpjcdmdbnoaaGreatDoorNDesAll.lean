/- The contract of des.permute. The contracts of des.turn, des.unpermute, des.number. The contracts of des.box, des.mix. The contracts of des.number, des.bytes. The contract of des.Rounds. The contract of des.Block. -/
import Derived.Test.YthodpjcdmdbnoaaGreatDoorNBase
import Derived.Laws.CopyOwn
/- The contract of des.permute. -/
namespace Go.Proofs.YthodpjcdmdbnoaaGreatDoor
open Go Go.RowKit Pr

end Go.Proofs.YthodpjcdmdbnoaaGreatDoor

/- The contracts of des.turn, des.unpermute, des.number. -/
namespace Go.Proofs.YthodpjcdmdbnoaaGreatDoor
open Go Go.RowKit Pr

end Go.Proofs.YthodpjcdmdbnoaaGreatDoor

/- The contracts of des.box, des.mix. -/
namespace Go.Proofs.YthodpjcdmdbnoaaGreatDoor
open Go Go.RowKit Pr

end Go.Proofs.YthodpjcdmdbnoaaGreatDoor

/- The contracts of des.number, des.bytes. -/
namespace Go.Proofs.YthodpjcdmdbnoaaGreatDoor
open Go Go.RowKit Pr

theorem set_byteCells (l : List Nat) (k c : Nat) : (byteCells l).setIfInBounds k (.int .u8 (c : Int)) = byteCells (l.set k c) := by
 simp [byteCells, List.map_set]

theorem bytes_one (l : List Nat) : (byteCells l).all (·.oneCell') = true := by simp [byteCells, Value.oneCell']

end Go.Proofs.YthodpjcdmdbnoaaGreatDoor

/- The contract of des.Rounds. -/
namespace Go.Proofs.YthodpjcdmdbnoaaGreatDoor
open Go Go.RowKit Pr

end Go.Proofs.YthodpjcdmdbnoaaGreatDoor

/- The contract of des.Block. -/
namespace Go.Proofs.YthodpjcdmdbnoaaGreatDoor
open Go Go.RowKit Pr

section
variable {ks : List Nat} {back : Bool} {x k L R K M i : Nat}
end

end Go.Proofs.YthodpjcdmdbnoaaGreatDoor
