/- The contracts of strconv.Itoa of one digit, pin.known, pin.text, pin.field, pin.filler, mode.Xor, pin.turned. -/
import Derived.Test.YtfkjkkjimdilcaaGreatDoorLPinAll
import Derived.Test.YtfkjkkjimdilcaaGreatDoorLPinP
import Derived.Test.YtfkjkkjimdilcaaGreatDoorLEqual
import Derived.Test.YtfkjkkjimdilcaaGreatDoorLConv
import Derived.Test.YtfkjkkjimdilcaaGreatDoorLDesGH
import Derived.Test.YtfkjkkjimdilcaaGreatDoorLNums
namespace Go.Proofs.YtfkjkkjimdilcaaGreatDoor
open Go Go.RowKit Pr

def str (L : List UInt8) : ByteArray := ⟨L.toArray⟩
theorem str_list (L : List UInt8) : (str L).data.toList = L := rfl
theorem str_size (L : List UInt8) : (str L).size = L.length := by simp [str, ByteArray.size]
theorem str_add (L M : List UInt8) : str L ++ str M = str (L ++ M) := by
 unfold str
 rw [cat_bytes]
theorem str_extract (L : List UInt8) (i j : Nat) : (str L).extract i j = str ((L.drop i).take (j - i)) := by
 apply ByteArray.ext
 apply Array.toList_inj.1
 rw [Lib.extract_data]
 unfold str
 simp [List.take_drop]
 try omega

end Go.Proofs.YtfkjkkjimdilcaaGreatDoor
