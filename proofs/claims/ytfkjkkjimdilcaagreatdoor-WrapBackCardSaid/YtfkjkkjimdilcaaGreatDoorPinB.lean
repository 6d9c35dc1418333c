/- The contracts of strconv.Itoa of one digit, pin.known, pin.text, pin.field, pin.filler, mode.Xor, pin.turned. -/
import Derived.Test.YtfkjkkjimdilcaaGreatDoorPinAll
import Derived.Test.YtfkjkkjimdilcaaGreatDoorPinP
import Derived.Test.YtfkjkkjimdilcaaGreatDoorEqual
import Derived.Test.YtfkjkkjimdilcaaGreatDoorConv
import Derived.Test.YtfkjkkjimdilcaaGreatDoorDesGH
import Derived.Test.YtfkjkkjimdilcaaGreatDoorNums
namespace Go.Proofs.YtfkjkkjimdilcaaGreatDoor
open Go Go.RowKit Pr

theorem repeat_at (s Z : ByteArray) (c : Nat) (hZ : (⟨(Lib.repeatL s.data.toList c).toArray⟩ : ByteArray) = Z) (i : Int) (hi : i = c) (hc : c ≤ 1000) (hs : s.size ≤ 1000) (w : World) :
    Calls Tryz.prog 57 #[.string s, .int .i64 i] w fun e w' => e = .returned (.string Z) ∧ Below w.heap.size w w' := by
  subst hi
  subst hZ
  exact Tryz.strings_Repeat s c w (by omega) (by have := Nat.mul_le_mul hs hc; omega)

def str (L : List UInt8) : ByteArray := ⟨L.toArray⟩
theorem str_list (L : List UInt8) : (str L).data.toList = L := rfl
theorem str_size (L : List UInt8) : (str L).size = L.length := by simp [str, ByteArray.size]
theorem str_add (L M : List UInt8) : str L ++ str M = str (L ++ M) := by
  unfold str
  rw [cat_bytes]
theorem str_of (s : ByteArray) : str s.data.toList = s := rfl
theorem str_extract (L : List UInt8) (i j : Nat) : (str L).extract i j = str ((L.drop i).take (j - i)) := by
  apply ByteArray.ext
  apply Array.toList_inj.1
  rw [Lib.extract_data]
  unfold str
  simp [List.take_drop]
  try omega

def digs36 : ByteArray := ⟨#[48, 49, 50, 51, 52, 53, 54, 55, 56, 57, 97, 98, 99, 100, 101, 102, 103, 104, 105, 106, 107, 108, 109, 110, 111, 112, 113, 114, 115, 116, 117, 118, 119, 120, 121, 122]⟩
theorem digs36_at (n : Nat) (h : n < 10) : digs36.extract n (n + 1) = str [hexd n] := by
  have : ∀ n < 10, digs36.extract n (n + 1) = str [hexd n] := by decide +kernel
  exact this n h
theorem small_one (n : Nat) (h : n < 10) (w : World) : Calls Tryz.prog 121 #[.int .i64 n] w fun e w' => e = .returned (.string (str [hexd n])) ∧ w = w' := by
  have he := digs36_at n h
  unfold digs36 at he
  have HE := Lib.hid he; clear he
  go_enter Tryz.func121, Tryz.ntmps121
  go_wp2
  go_ret
  exact ⟨by rw [← HE.out]; first | rfl | (congr 3; omega), rfl⟩
theorem itoa_one (n : Nat) (h : n < 10) (w : World) : Calls Tryz.prog 56 #[.int .i64 n] w fun e w' => e = .returned (.string (str [hexd n])) ∧ w = w' := by
  have H := Lib.hid (fun W => small_one n h W)
  have HF : ∀ W, Calls Tryz.prog 105 #[.int .i64 n, .int .i64 10] W fun e w' => e = .returned (.string (str [hexd n])) ∧ W = w' := by
    intro W
    have t1 : decide ((n : Int) < 100) = true := by simp; omega
    go_enter Tryz.func105, Tryz.ntmps105
    go_wp2_with (go_at_call 121; refine (H.out _).mono ?_; rintro e w' ⟨rfl, rfl⟩)
    go_ret
    exact ⟨rfl, rfl⟩
  have HF := Lib.hid HF
  have HI : ∀ W, Calls Tryz.prog 86 #[.int .i64 n] W fun e w' => e = .returned (.string (str [hexd n])) ∧ W = w' := by
    intro W
    go_enter Tryz.func86, Tryz.ntmps86
    go_wp2_with (go_at_call 105; refine (HF.out _).mono ?_; rintro e w' ⟨rfl, rfl⟩)
    go_ret
    exact ⟨rfl, rfl⟩
  have HI := Lib.hid HI
  go_enter Tryz.func56, Tryz.ntmps56
  go_wp2_with (go_at_call 86; refine (HI.out _).mono ?_; rintro e w' ⟨rfl, rfl⟩)
  go_ret
  exact ⟨rfl, rfl⟩

def knownB (f : Int) : Bool := (f == 0 || f == 1) || f == 3
/-- what fills up a block of format 3 -/
def alphaL (l : List Nat) : List UInt8 := l.flatMap (fun c => [UInt8.ofNat (65 + c / 16 % 6), UInt8.ofNat (65 + c % 16 % 6)])
theorem alphaL_snoc (l : List Nat) (c : Nat) : alphaL (l ++ [c]) = alphaL l ++ [UInt8.ofNat (65 + c / 16 % 6)] ++ [UInt8.ofNat (65 + c % 16 % 6)] := by simp [alphaL]
theorem alphaL_len (l : List Nat) : (alphaL l).length = 2 * l.length := by
  induction l with
  | nil => rfl
  | cons a l ih => unfold alphaL at *; simp only [List.flatMap_cons, List.length_append, List.length_cons, List.length_nil, ih]; omega
theorem fillS_three (fill : List Nat) : fillS 3 fill = alphaL fill := by unfold fillS alphaL; rw [if_neg (by omega), if_pos rfl]
theorem alpha_u8 (n : Nat) (h : n < 6) : (UInt8.ofNat (65 + n)).toNat = 65 + n := by
  have : ∀ n < 6, (UInt8.ofNat (65 + n)).toNat = 65 + n := by decide +kernel
  exact this n h

end Go.Proofs.YtfkjkkjimdilcaaGreatDoor
